/- weekBijection_holds: part 3 of the proof: the plain functions, the walks of the program's functions and the laws about them. Conditions: those that each theorem states. -/
import Derived.ChangeKeysEq
import Derived.Test.YtjdajlnigiicaaaDoorBijection1
import Derived.Test.YtjdajlnigiicaaaDoorBijection2
section
namespace Go.Proofs.YtjdajlnigiicaaaDoor.S
open Go.RowKit Go.Proofs.YtjdajlnigiicaaaDoorW.PrintWords Go.Proofs.YtjdajlnigiicaaaDoorW.PrintLast Go.Proofs.YtjdajlnigiicaaaDoorW.PrintMore
set_option linter.unusedVariables false
set_option linter.unusedSimpArgs false
open Go.Shelf in
def innerR (r : Nat) : Bool := (decide (97 ≤ r) && decide (r ≤ 122)) || (decide (48 ≤ r) && decide (r ≤ 57)) || decide (r = 95)
theorem inner_calls (r : Nat) (w : World) : Calls Tryd.prog 75 #[.int .i32 r] w fun e w' => e = .returned (.bool (innerR r)) ∧ w' = w := by
  by_cases h1 : 97 ≤ r <;> by_cases h2 : r ≤ 122 <;> by_cases h3 : 48 ≤ r <;> by_cases h4 : r ≤ 57 <;> by_cases h5 : r = 95
  all_goals first | (exfalso; omega) | skip
  all_goals
    have z1 : (97 : Int) ≤ (r : Int) ↔ 97 ≤ r := by omega
    have z2 : (r : Int) ≤ 122 ↔ r ≤ 122 := by omega
    have z3 : (48 : Int) ≤ (r : Int) ↔ 48 ≤ r := by omega
    have z4 : (r : Int) ≤ 57 ↔ r ≤ 57 := by omega
    have z5 : ((r : Int) == 95) = decide (r = 95) := by by_cases h : r = 95 <;> simp [h]; omega
    go_enter Tryd.func75, Tryd.ntmps75
    go_wp2
    all_goals first | (exfalso; omega) | (go_ret; exact ⟨by simp [innerR, h1, h2, h3, h4, h5], rfl⟩)
set_option maxHeartbeats 4000000 in
theorem odd_pays (B : Nat) (w : World) (hB : w.heap[B]? = some (.cells #[.func (.func 75) #[] #[]] 134 (0, 0))) : PredAt Tryd.prog 76 #[.pointer (some ⟨B, 0, none⟩)] encR (fun r => !innerR r) w := by
  intro W r hW
  have hB1 := blk_below hB hW
  have hc : W.cell? ⟨B, 0, none⟩ = some (.func (.func 75) #[] #[]) := (blk_cell hB1 0).trans rfl
  clear hB hB1 hW w
  show Calls Tryd.prog 76 #[.int .i32 r, .pointer (some ⟨B, 0, none⟩)] W _
  go_enter Tryd.func76, Tryd.ntmps76
  go_wp2_with ((with_reducible refine gate_dst (N := 6) rfl ?_); refine goesLV_ (some 6) rfl rfl Tryd.func75 (by kernel_rfl) rfl #[.int .i32 r] (t := 4) rfl (by first | rfl | (go_simp; done) | (go_simp; rfl)) (by (try simp only [List.map_toArray, List.map_cons, List.map_nil]); first | done | rfl) ?_; refine (inner_calls r _).mono ?_; rintro e w' ⟨rfl, rfl⟩; refine ⟨_, rfl, ?_⟩)
  go_ret
  exact ⟨rfl, 0, rfl⟩
def reservedL : List UInt8 := [32, 104, 97, 114, 100, 32, 115, 111, 102, 116, 32, 101, 97, 99, 104, 32, 97, 108, 108, 32, 115, 111, 109, 101, 32, 108, 101, 97, 115, 116, 32, 109, 111, 115, 116, 32, 116, 114, 117, 101, 32, 102, 97, 108, 115, 101, 32, 97, 116, 32, 105, 110, 32, 116, 101, 97, 99, 104, 101, 115, 32, 97, 116, 116, 101, 110, 100, 115, 32, 97, 119, 97, 121, 32, 115, 104, 117, 116, 32, 100, 97, 121, 32, 104, 111, 117, 114, 32, 104, 111, 117, 115, 101, 32, 115, 101, 97, 116, 115, 32, 115, 105, 122, 101, 32, 108, 101, 115, 115, 111, 110, 32, 115, 108, 111, 116, 32, 114, 111, 111, 109, 32, 112, 101, 114, 115, 111, 110, 32, 103, 114, 111, 117, 112, 32]
theorem toList_loop (s : ByteArray) : ∀ (n i : Nat) (r : List UInt8), s.size - i = n → ByteArray.toList.loop s i r = r.reverse ++ (s.data.toList.drop i) := by
  intro n
  induction n with
  | zero =>
    intro i r h
    rw [ByteArray.toList.loop]
    have : ¬ i < s.size := by omega
    simp [this]
    have : s.data.size ≤ i := by show s.size ≤ i; omega
    simp; omega
  | succ n ih =>
    intro i r h
    rw [ByteArray.toList.loop]
    have hi : i < s.size := by omega
    simp only [hi, if_true]
    rw [ih _ _ (by omega)]
    have : i < s.data.toList.length := by simpa using hi
    rw [List.drop_eq_getElem_cons this]
    simp [ByteArray.get!, getElem!_pos, hi]
theorem toList_data (s : ByteArray) : s.toList = s.data.toList := by
  unfold ByteArray.toList
  rw [toList_loop s _ 0 [] rfl]; simp
theorem toList_nil {s : ByteArray} (h : s.size = 0) : s.toList = [] := by
  rw [toList_data]
  have : s.data.toList.length = 0 := by simpa using h
  exact List.length_eq_zero_iff.mp this
theorem toList_ne {s : ByteArray} (h : ¬ s.size = 0) : ¬ s.toList = [] := by
  rw [toList_data]
  intro e
  have : s.data.toList.length = 0 := by rw [e]; rfl
  exact h (by simpa using this)
def namedB (s : ByteArray) : Bool := if s.size = 0 ∨ 64 < s.size ∨ bt s 0 < 97 ∨ 0 ≤ Lib.idxFunc (fun r => !innerR r) true s then false else !Lib.contains reservedL (32 :: s.data.toList ++ [32])
def VOk (w : World) : Prop := ∃ m : Int, w.cell? ⟨0, 0, none⟩ = some (.int .i64 m)
theorem VOk.below {w w1 : World} (h : VOk w) (hb : Below w.heap.size w w1) : VOk w1 := by
  obtain ⟨m, hm⟩ := h
  exact ⟨m, (hb.cell (World.block_lt_of_cell? w _ hm)).trans hm⟩
set_option maxHeartbeats 8000000 in
set_option maxRecDepth 100000 in
theorem named_calls (s : ByteArray) (hs : s.size ≤ 9223372036854775807) (w : World) (hV : VOk w) : Calls Tryd.prog 46 #[.string s] w fun e w' => e = .returned (.bool (namedB s)) ∧ Below w.heap.size w w' := by
  have HV := Aside0.mk hV
  have HS := Aside0.mk hs
  clear hV hs
  have hid := Aside0.mk (show namedB s = namedB s from rfl)
  by_cases h1 : s.size = 0
  · have e1 := toList_nil h1
    have HE := Aside0.mk (show namedB s = false from if_pos (Or.inl h1))
    clear h1 hid
    go_enter Tryd.func46, Tryd.ntmps46
    go_wp2_with (first | ((with_reducible refine gate_dst (N := 3) rfl ?_); refine var_event ?hg (N := 3) ?hd ?hg2 ?hn2 (z := #[.nilFunc]) (cs := #[.func (.func 75) #[] #[]]) (T := 134) ?hr ?hs ?_; (case hg => rfl); (case hd => rfl); (case hg2 => rfl); (case hn2 => rfl); (case hr => first | (go_simp; done) | (go_simp; rfl)); (case hs => first | (go_simp; done) | (go_simp; rfl)); intro gb hg w1 hbox hb; clear hg; have HB := Aside0.mk hb; have BK := Aside0.mk hbox; clear hb hbox))
    go_ret
    exact ⟨by rw [HE.out]; rfl, HB.out⟩
  · have e1 := toList_ne h1
    have e2 : s.toList.isEmpty = false := by simpa using e1
    have p1 : 0 < s.size := by omega
    by_cases h2 : 64 < s.size
    · have HE := Aside0.mk (show namedB s = false from if_pos (Or.inr (Or.inl h2)))
      have d2 : decide ((64 : Int) < (s.size : Int)) = true := decide_eq_true (by omega)
      have d3 : decide (64 < s.size) = true := decide_eq_true h2
      clear h2 hid
      go_enter Tryd.func46, Tryd.ntmps46
      go_wp2_with (first | ((with_reducible refine gate_dst (N := 3) rfl ?_); refine var_event ?hg (N := 3) ?hd ?hg2 ?hn2 (z := #[.nilFunc]) (cs := #[.func (.func 75) #[] #[]]) (T := 134) ?hr ?hs ?_; (case hg => rfl); (case hd => rfl); (case hg2 => rfl); (case hn2 => rfl); (case hr => first | (go_simp; done) | (go_simp; rfl)); (case hs => first | (go_simp; done) | (go_simp; rfl)); intro gb hg w1 hbox hb; clear hg; have HB := Aside0.mk hb; have BK := Aside0.mk hbox; clear hb hbox))
      go_ret
      exact ⟨by rw [HE.out]; rfl, HB.out⟩
    · have d2 : decide ((64 : Int) < (s.size : Int)) = false := decide_eq_false (by omega)
      have d3 : decide (64 < s.size) = false := decide_eq_false h2
      have eb : ((s[0]'p1).toNat : Int) = bt s 0 := bt_at s 0 p1
      by_cases h3 : bt s 0 < 97
      · have HE := Aside0.mk (show namedB s = false from if_pos (Or.inr (Or.inr (Or.inl h3))))
        have d4 : decide (((s[0]'p1).toNat : Int) < 97) = true := decide_eq_true (by omega)
        clear h3 h2 eb hid
        go_enter Tryd.func46, Tryd.ntmps46
        go_wp2_with (first | ((with_reducible refine gate_dst (N := 3) rfl ?_); refine var_event ?hg (N := 3) ?hd ?hg2 ?hn2 (z := #[.nilFunc]) (cs := #[.func (.func 75) #[] #[]]) (T := 134) ?hr ?hs ?_; (case hg => rfl); (case hd => rfl); (case hg2 => rfl); (case hn2 => rfl); (case hr => first | (go_simp; done) | (go_simp; rfl)); (case hs => first | (go_simp; done) | (go_simp; rfl)); intro gb hg w1 hbox hb; clear hg; have HB := Aside0.mk hb; have BK := Aside0.mk hbox; clear hb hbox))
        go_ret
        exact ⟨by rw [HE.out]; rfl, HB.out⟩
      · have d4 : decide (((s[0]'p1).toNat : Int) < 97) = false := decide_eq_false (by omega)
        by_cases h4 : 0 ≤ Lib.idxFunc (fun r => !innerR r) true s
        · have HE := Aside0.mk (show namedB s = false from if_pos (Or.inr (Or.inr (Or.inr h4))))
          have d5 : decide (0 ≤ Lib.idxFunc (fun r => !innerR r) true s) = true := decide_eq_true h4
          clear h4 h3 h2 eb hid
          go_enter Tryd.func46, Tryd.ntmps46
          go_wp2_with (first | ((with_reducible refine gate_dst (N := 3) rfl ?_); refine var_event ?hg (N := 3) ?hd ?hg2 ?hn2 (z := #[.nilFunc]) (cs := #[.func (.func 75) #[] #[]]) (T := 134) ?hr ?hs ?_; (case hg => rfl); (case hd => rfl); (case hg2 => rfl); (case hn2 => rfl); (case hr => first | (go_simp; done) | (go_simp; rfl)); (case hs => first | (go_simp; done) | (go_simp; rfl)); intro gb hg w1 hbox hb; clear hg; have HB := Aside0.mk hb; have BK := Aside0.mk hbox; clear hb hbox) | (go_at_call 77; refine (Any.strings_ContainsFunc l17 76 #[.pointer (some ⟨gb, 0, none⟩)] (fun args w => enters_ Tryd.func76 (by kernel_rfl) rfl args w) _ s _ (odd_pays gb _ BK.out)).mono ?_; rintro e w2 ⟨rfl, hb⟩; replace HB := Aside0.mk (below_step HB.out hb); clear hb))
          go_ret
          exact ⟨by rw [HE.out]; rfl, HB.out⟩
        · have HE := Aside0.mk (show namedB s = !Lib.contains reservedL (32 :: s.data.toList ++ [32]) from if_neg (by rintro (h | h | h | h) <;> first | exact h1 h | exact h2 h | exact h3 h | exact h4 h))
          have d5 : decide (0 ≤ Lib.idxFunc (fun r => !innerR r) true s) = false := decide_eq_false h4
          have c1 : ¬ 9223372036854775807 < 1 + s.size := by omega
          have c2 : ¬ 9223372036854775807 < 1 + s.size + 1 := by omega
          have hct : (⟨#[32]⟩ ++ s ++ ⟨#[32]⟩ : ByteArray).data.toList = 32 :: s.data.toList ++ [32] := by simp
          have HCt := Aside0.mk (fun (W : World) (m : Int) (hm : W.cell? ⟨0, 0, none⟩ = some (.int .i64 m)) => (by
            have h := Any.strings_Contains l144 ⟨reservedL.toArray⟩ (⟨#[32]⟩ ++ s ++ ⟨#[32]⟩) m W (by decide) hm
            rw [hct] at h
            exact h : Calls Tryd.prog 78 #[.string ⟨reservedL.toArray⟩, .string (⟨#[32]⟩ ++ s ++ ⟨#[32]⟩)] W fun e w' => e = .returned (.bool (Lib.contains reservedL (32 :: s.data.toList ++ [32]))) ∧ w' = W))
          generalize Lib.contains reservedL (32 :: s.data.toList ++ [32]) = bc at HE HCt
          clear h4 h3 h2 eb hid hct
          go_enter Tryd.func46, Tryd.ntmps46
          go_wp2_with (first | ((with_reducible refine gate_dst (N := 3) rfl ?_); refine var_event ?hg (N := 3) ?hd ?hg2 ?hn2 (z := #[.nilFunc]) (cs := #[.func (.func 75) #[] #[]]) (T := 134) ?hr ?hs ?_; (case hg => rfl); (case hd => rfl); (case hg2 => rfl); (case hn2 => rfl); (case hr => first | (go_simp; done) | (go_simp; rfl)); (case hs => first | (go_simp; done) | (go_simp; rfl)); intro gb hg w1 hbox hb; clear hg; have HB := Aside0.mk hb; have BK := Aside0.mk hbox; clear hb hbox) | (go_at_call 77; refine (Any.strings_ContainsFunc l17 76 #[.pointer (some ⟨gb, 0, none⟩)] (fun args w => enters_ Tryd.func76 (by kernel_rfl) rfl args w) _ s _ (odd_pays gb _ BK.out)).mono ?_; rintro e w2 ⟨rfl, hb⟩; replace HB := Aside0.mk (below_step HB.out hb); clear hb) | (go_at_call 78; obtain ⟨m, hm⟩ := HV.out.below HB.out; refine (HCt.out _ m hm).mono ?_; rintro e w3 ⟨rfl, rfl⟩))
          go_ret
          exact ⟨by rw [HE.out]; rfl, HB.out⟩
end Go.Proofs.YtjdajlnigiicaaaDoor.S
end
section
namespace Go.Proofs.YtjdajlnigiicaaaDoor.S
open Go.RowKit Go.Proofs.YtjdajlnigiicaaaDoorW.PrintWords Go.Proofs.YtjdajlnigiicaaaDoorW.PrintLast Go.Proofs.YtjdajlnigiicaaaDoorW.PrintMore
set_option linter.unusedVariables false
set_option linter.unusedSimpArgs false
theorem RoundIn.anyWide {m m' : Nat} {P : Program} {l : Nat} {f : FuncId} {tmps : Array Value} {assign body : Code} {w : World} {R : Ending → World → Prop}
    (h : RoundIn Fence.wide m P l f tmps assign body w R) : RoundIn Fence.wide m' P l f tmps assign body w R := ⟨h.1, fun c cs _ => h.2 c cs (room_wide _)⟩
theorem YieldAt.anyWide {m : Nat} (m' : Nat) {P : Program} {l : Nat} {args : Array Value} {W : World} {R : Ending → World → Prop} (h : YieldAt Fence.wide m P l args W R) : YieldAt Fence.wide m' P l args W R := by
  obtain ⟨fn, tmps, assign, body, hy, hR⟩ := h
  exact ⟨fn, tmps, assign, body, hy, RoundIn.anyWide hR⟩
def prs {α : Type} (f : α → ByteArray) : Int → List α → List (Int × ByteArray)
  | _, [] => []
  | i, x :: l => (i, f x) :: prs f (i + 1) l
section
attribute [local go_sem] Oper.semAt_some
set_option maxHeartbeats 4000000 in
theorem name_Lesson.calls (x : S101) (A1 : Option Addr) (c1 : Nat) (A2 : Option Addr) (c2 : Nat) (W : World) : Calls Tryd.prog 64 #[.agg #[.string x.f0, .slice A1 x.f1.length c1, .slice A2 x.f2.length c2]] W fun e W' => e = .returned (.string x.f0) ∧ Below W.heap.size W W' := by
  have hu := Tryd.underlying101
  go_enter Tryd.func64, Tryd.ntmps64
  go_wp2
  go_ret
  exact ⟨rfl, (Below.refl _ _).alloc (Nat.le_refl _) _⟩
set_option maxHeartbeats 8000000 in
set_option maxRecDepth 100000 in
theorem each_Lesson (n : Nat) (hn : 1 ≤ n) (l : Nat) (A0 : Option Addr) (c0 : Nat) (l0 : List S101) (w : World) (hr0 : Kd.C k101 w A0 l0.length l0) (J Jx : List (Int × ByteArray) → World → Prop)
    (hE : ∀ pre A B, J pre A → Below A.heap.size A B → J pre B)
    (hY : ∀ pre x W1, J pre W1 → pre ++ [x] <+: prs (fun x : S101 => x.f0) 0 l0 → YieldAt Fence.wide (n - 1) Tryd.prog l #[.int .i64 x.1, .string x.2] W1 fun e W' =>
      (e = .returned (.bool true) ∧ J (pre ++ [x]) W' ∧ Below w.heap.size W1 W') ∨ (e = .returned (.bool false) ∧ Jx (pre ++ [x]) W' ∧ Below w.heap.size W1 W'))
    (W : World) (hW : Below w.heap.size w W) (h0 : J [] W) :
    CallsIn Fence.wide n Tryd.prog 63 #[.slice A0 l0.length c0, .func (.func 64) #[] #[], .func (.yield l) #[] #[]] W fun e W' => (∃ v, e = .returned v) ∧ (J (prs (fun x : S101 => x.f0) 0 l0) W' ∨ (∃ pre, Jx pre W')) := by
  have hu := Tryd.underlying101
  have HR0 := Aside0.mk hr0
  have HL := Aside0.mk hr0.2.1
  have HE := Aside0.mk hE
  have HY := Aside0.mk hY
  clear hr0 hE hY
  refine callsIn_of_wp Tryd.func63 rfl trivial ?_ rfl
  simp only [Tryd.ntmps63, List.size_toArray, List.length_cons, List.length_nil, Nat.reduceAdd, Nat.reduceSub, Array.replicate_succ, Array.replicate_zero, List.push_toArray, List.append_toArray, List.nil_append, List.cons_append]
  gi_wp2
  gi_loopg [11] l0.length (fun kq v11 wr => ∃ (i : Int) (pre : List (Int × ByteArray)), v11 = .int .i64 i ∧ Aside0 (0 ≤ i ∧ i + kq = l0.length ∧ prs (fun x : S101 => x.f0) 0 l0 = pre ++ prs (fun x : S101 => x.f0) i (l0.drop i.toNat)) ∧ Aside0 (Below w.heap.size w wr) ∧ Aside0 (J pre wr))
  case atStart => exact ⟨0, [], rfl, ⟨by omega, by omega, rfl⟩, ⟨hW⟩, ⟨h0⟩⟩
  case round =>
    obtain ⟨i, pre, rfl, HI, HB, HJ⟩ := hrel
    cases gk with
    | zero =>
      have d1 : decide (i < (l0.length : Int)) = false := decide_eq_false (by have := HI.out.2.1; omega)
      have HD := Aside0.mk (show prs (fun x : S101 => x.f0) 0 l0 = pre by rw [HI.out.2.2, List.drop_of_length_le (by have := HI.out.2.1; omega)]; simp [prs])
      gi_wp2
      go_end0
      exact ⟨⟨_, rfl⟩, .inl (by rw [HD.out]; exact HJ.out)⟩
    | succ k1 =>
      have d1 : decide (i < (l0.length : Int)) = true := decide_eq_true (by have := HI.out.2.1; omega)
      have p1 : (0 ≤ i) = True := eq_true HI.out.1
      have q1 : (i < (l0.length : Int)) = True := eq_true (by have := HI.out.2.1; omega)
      obtain ⟨ad, A1, c1, A2, c2, e_, z0, z1, z2, l1, C1, l2, C2⟩ := at_T101 (Kd.C_below HR0.out HB.out) i HI.out.1 (by have := HI.out.2.1; omega)
      subst e_
      have HD := Aside0.mk (show l0.drop i.toNat = (rd_T101 l0 i) :: l0.drop (i + 1).toNat by
        have hi : i.toNat < l0.length := by have := HI.out; omega
        rw [List.drop_eq_getElem_cons hi]
        unfold rd_T101
        rw [List.getD_eq_getElem?_getD, List.getElem?_eq_getElem hi, show (i + 1).toNat = i.toNat + 1 by have := HI.out; omega]
        rfl)
      have EW := Aside0.mk (show wrap64 (i + 1) = i + 1 by have := HI.out; have := HL.out; unfold wrap64; omega)
      have HP := Aside0.mk (show prs (fun x : S101 => x.f0) 0 l0 = (pre ++ [(i, (rd_T101 l0 i).f0)]) ++ prs (fun x : S101 => x.f0) (i + 1) (l0.drop (i + 1).toNat) by rw [HI.out.2.2, HD.out]; simp [prs])
      clear HD
      have hnf : ∀ V : World, (Go.binOp .neq 121 (.func (.func 64) #[] #[]) .nilFunc).run Tryd.prog V = .ok (.bool true) V := fun _ => by kernel_rfl
      gi_wp2_with (first | (refine ⟨trivial, ?_⟩; gi_at_call 64; refine (callsIn_wide.2 (name_Lesson.calls (rd_T101 l0 i) A1 c1 A2 c2 _)).mono ?_; rintro e w2 ⟨rfl, hb⟩; have HB2 := Aside0.mk (show Below wr.heap.size wr w2 from below_step (below_alloc (Below.refl _ _) _) hb); clear hb; obtain ⟨fn, tmps, assign, body, hy, hR⟩ := HY.out pre (i, (rd_T101 l0 i).f0) w2 (HE.out _ _ _ HJ.out HB2.out) (by rw [HP.out]; exact ⟨_, rfl⟩); have HR := Aside0.mk hR; clear hR))
      refine HR.out.mono ?_
      rintro e W3 (⟨rfl, hJ3, hk3⟩ | ⟨rfl, hx3, hk3⟩)
      · have HJ3 := Aside0.mk hJ3
        have HB3 := Aside0.mk ((below_step HB.out HB2.out).trans hk3)
        clear hJ3 hk3 hy hnf z0 z1 z2
        gi_wp2
        gi_roundg k1
        case measure => omega
        case rel => exact ⟨wrap64 (i + 1), pre ++ [(i, (rd_T101 l0 i).f0)], rfl, by rw [EW.out]; exact ⟨by have := HI.out; omega, by have := HI.out; omega, HP.out⟩, HB3, HJ3⟩
      · have HX3 := Aside0.mk hx3
        clear hx3 hk3 hy hnf z0 z1 z2
        gi_wp2
        refine bodyPost_ret (results_none rfl _ _ _) rfl ?_
        exact ⟨⟨_, rfl⟩, .inr ⟨_, HX3.out⟩⟩
set_option maxHeartbeats 4000000 in
theorem name_Slot.calls (x : S87) (W : World) : Calls Tryd.prog 66 #[.agg #[.string x.f0, .int .i64 x.f1, .int .i64 x.f2]] W fun e W' => e = .returned (.string x.f0) ∧ Below W.heap.size W W' := by
  have hu := Tryd.underlying87
  go_enter Tryd.func66, Tryd.ntmps66
  go_wp2
  go_ret
  exact ⟨rfl, (Below.refl _ _).alloc (Nat.le_refl _) _⟩
set_option maxHeartbeats 8000000 in
set_option maxRecDepth 100000 in
theorem each_Slot (n : Nat) (hn : 1 ≤ n) (l : Nat) (A0 : Option Addr) (c0 : Nat) (l0 : List S87) (w : World) (hr0 : Kd.C k87 w A0 l0.length l0) (J Jx : List (Int × ByteArray) → World → Prop)
    (hE : ∀ pre A B, J pre A → Below A.heap.size A B → J pre B)
    (hY : ∀ pre x W1, J pre W1 → pre ++ [x] <+: prs (fun x : S87 => x.f0) 0 l0 → YieldAt Fence.wide (n - 1) Tryd.prog l #[.int .i64 x.1, .string x.2] W1 fun e W' =>
      (e = .returned (.bool true) ∧ J (pre ++ [x]) W' ∧ Below w.heap.size W1 W') ∨ (e = .returned (.bool false) ∧ Jx (pre ++ [x]) W' ∧ Below w.heap.size W1 W'))
    (W : World) (hW : Below w.heap.size w W) (h0 : J [] W) :
    CallsIn Fence.wide n Tryd.prog 65 #[.slice A0 l0.length c0, .func (.func 66) #[] #[], .func (.yield l) #[] #[]] W fun e W' => (∃ v, e = .returned v) ∧ (J (prs (fun x : S87 => x.f0) 0 l0) W' ∨ (∃ pre, Jx pre W')) := by
  have hu := Tryd.underlying87
  have HR0 := Aside0.mk hr0
  have HL := Aside0.mk hr0.2.1
  have HE := Aside0.mk hE
  have HY := Aside0.mk hY
  clear hr0 hE hY
  refine callsIn_of_wp Tryd.func65 rfl trivial ?_ rfl
  simp only [Tryd.ntmps65, List.size_toArray, List.length_cons, List.length_nil, Nat.reduceAdd, Nat.reduceSub, Array.replicate_succ, Array.replicate_zero, List.push_toArray, List.append_toArray, List.nil_append, List.cons_append]
  gi_wp2
  gi_loopg [11] l0.length (fun kq v11 wr => ∃ (i : Int) (pre : List (Int × ByteArray)), v11 = .int .i64 i ∧ Aside0 (0 ≤ i ∧ i + kq = l0.length ∧ prs (fun x : S87 => x.f0) 0 l0 = pre ++ prs (fun x : S87 => x.f0) i (l0.drop i.toNat)) ∧ Aside0 (Below w.heap.size w wr) ∧ Aside0 (J pre wr))
  case atStart => exact ⟨0, [], rfl, ⟨by omega, by omega, rfl⟩, ⟨hW⟩, ⟨h0⟩⟩
  case round =>
    obtain ⟨i, pre, rfl, HI, HB, HJ⟩ := hrel
    cases gk with
    | zero =>
      have d1 : decide (i < (l0.length : Int)) = false := decide_eq_false (by have := HI.out.2.1; omega)
      have HD := Aside0.mk (show prs (fun x : S87 => x.f0) 0 l0 = pre by rw [HI.out.2.2, List.drop_of_length_le (by have := HI.out.2.1; omega)]; simp [prs])
      gi_wp2
      go_end0
      exact ⟨⟨_, rfl⟩, .inl (by rw [HD.out]; exact HJ.out)⟩
    | succ k1 =>
      have d1 : decide (i < (l0.length : Int)) = true := decide_eq_true (by have := HI.out.2.1; omega)
      have p1 : (0 ≤ i) = True := eq_true HI.out.1
      have q1 : (i < (l0.length : Int)) = True := eq_true (by have := HI.out.2.1; omega)
      obtain ⟨ad, e_, z0, z1, z2⟩ := at_T87 (Kd.C_below HR0.out HB.out) i HI.out.1 (by have := HI.out.2.1; omega)
      subst e_
      have HD := Aside0.mk (show l0.drop i.toNat = (rd_T87 l0 i) :: l0.drop (i + 1).toNat by
        have hi : i.toNat < l0.length := by have := HI.out; omega
        rw [List.drop_eq_getElem_cons hi]
        unfold rd_T87
        rw [List.getD_eq_getElem?_getD, List.getElem?_eq_getElem hi, show (i + 1).toNat = i.toNat + 1 by have := HI.out; omega]
        rfl)
      have EW := Aside0.mk (show wrap64 (i + 1) = i + 1 by have := HI.out; have := HL.out; unfold wrap64; omega)
      have HP := Aside0.mk (show prs (fun x : S87 => x.f0) 0 l0 = (pre ++ [(i, (rd_T87 l0 i).f0)]) ++ prs (fun x : S87 => x.f0) (i + 1) (l0.drop (i + 1).toNat) by rw [HI.out.2.2, HD.out]; simp [prs])
      clear HD
      have hnf : ∀ V : World, (Go.binOp .neq 123 (.func (.func 66) #[] #[]) .nilFunc).run Tryd.prog V = .ok (.bool true) V := fun _ => by kernel_rfl
      gi_wp2_with (first | (refine ⟨trivial, ?_⟩; gi_at_call 66; refine (callsIn_wide.2 (name_Slot.calls (rd_T87 l0 i) _)).mono ?_; rintro e w2 ⟨rfl, hb⟩; have HB2 := Aside0.mk (show Below wr.heap.size wr w2 from below_step (below_alloc (Below.refl _ _) _) hb); clear hb; obtain ⟨fn, tmps, assign, body, hy, hR⟩ := HY.out pre (i, (rd_T87 l0 i).f0) w2 (HE.out _ _ _ HJ.out HB2.out) (by rw [HP.out]; exact ⟨_, rfl⟩); have HR := Aside0.mk hR; clear hR))
      refine HR.out.mono ?_
      rintro e W3 (⟨rfl, hJ3, hk3⟩ | ⟨rfl, hx3, hk3⟩)
      · have HJ3 := Aside0.mk hJ3
        have HB3 := Aside0.mk ((below_step HB.out HB2.out).trans hk3)
        clear hJ3 hk3 hy hnf z0 z1 z2
        gi_wp2
        gi_roundg k1
        case measure => omega
        case rel => exact ⟨wrap64 (i + 1), pre ++ [(i, (rd_T87 l0 i).f0)], rfl, by rw [EW.out]; exact ⟨by have := HI.out; omega, by have := HI.out; omega, HP.out⟩, HB3, HJ3⟩
      · have HX3 := Aside0.mk hx3
        clear hx3 hk3 hy hnf z0 z1 z2
        gi_wp2
        refine bodyPost_ret (results_none rfl _ _ _) rfl ?_
        exact ⟨⟨_, rfl⟩, .inr ⟨_, HX3.out⟩⟩
set_option maxHeartbeats 4000000 in
theorem name_Room.calls (x : S91) (A3 : Option Addr) (c3 : Nat) (W : World) : Calls Tryd.prog 68 #[.agg #[.string x.f0, .int .i64 x.f1, .int .i64 x.f2, .slice A3 x.f3.length c3]] W fun e W' => e = .returned (.string x.f0) ∧ Below W.heap.size W W' := by
  have hu := Tryd.underlying91
  go_enter Tryd.func68, Tryd.ntmps68
  go_wp2
  go_ret
  exact ⟨rfl, (Below.refl _ _).alloc (Nat.le_refl _) _⟩
set_option maxHeartbeats 8000000 in
set_option maxRecDepth 100000 in
theorem each_Room (n : Nat) (hn : 1 ≤ n) (l : Nat) (A0 : Option Addr) (c0 : Nat) (l0 : List S91) (w : World) (hr0 : Kd.C k91 w A0 l0.length l0) (J Jx : List (Int × ByteArray) → World → Prop)
    (hE : ∀ pre A B, J pre A → Below A.heap.size A B → J pre B)
    (hY : ∀ pre x W1, J pre W1 → pre ++ [x] <+: prs (fun x : S91 => x.f0) 0 l0 → YieldAt Fence.wide (n - 1) Tryd.prog l #[.int .i64 x.1, .string x.2] W1 fun e W' =>
      (e = .returned (.bool true) ∧ J (pre ++ [x]) W' ∧ Below w.heap.size W1 W') ∨ (e = .returned (.bool false) ∧ Jx (pre ++ [x]) W' ∧ Below w.heap.size W1 W'))
    (W : World) (hW : Below w.heap.size w W) (h0 : J [] W) :
    CallsIn Fence.wide n Tryd.prog 67 #[.slice A0 l0.length c0, .func (.func 68) #[] #[], .func (.yield l) #[] #[]] W fun e W' => (∃ v, e = .returned v) ∧ (J (prs (fun x : S91 => x.f0) 0 l0) W' ∨ (∃ pre, Jx pre W')) := by
  have hu := Tryd.underlying91
  have HR0 := Aside0.mk hr0
  have HL := Aside0.mk hr0.2.1
  have HE := Aside0.mk hE
  have HY := Aside0.mk hY
  clear hr0 hE hY
  refine callsIn_of_wp Tryd.func67 rfl trivial ?_ rfl
  simp only [Tryd.ntmps67, List.size_toArray, List.length_cons, List.length_nil, Nat.reduceAdd, Nat.reduceSub, Array.replicate_succ, Array.replicate_zero, List.push_toArray, List.append_toArray, List.nil_append, List.cons_append]
  gi_wp2
  gi_loopg [11] l0.length (fun kq v11 wr => ∃ (i : Int) (pre : List (Int × ByteArray)), v11 = .int .i64 i ∧ Aside0 (0 ≤ i ∧ i + kq = l0.length ∧ prs (fun x : S91 => x.f0) 0 l0 = pre ++ prs (fun x : S91 => x.f0) i (l0.drop i.toNat)) ∧ Aside0 (Below w.heap.size w wr) ∧ Aside0 (J pre wr))
  case atStart => exact ⟨0, [], rfl, ⟨by omega, by omega, rfl⟩, ⟨hW⟩, ⟨h0⟩⟩
  case round =>
    obtain ⟨i, pre, rfl, HI, HB, HJ⟩ := hrel
    cases gk with
    | zero =>
      have d1 : decide (i < (l0.length : Int)) = false := decide_eq_false (by have := HI.out.2.1; omega)
      have HD := Aside0.mk (show prs (fun x : S91 => x.f0) 0 l0 = pre by rw [HI.out.2.2, List.drop_of_length_le (by have := HI.out.2.1; omega)]; simp [prs])
      gi_wp2
      go_end0
      exact ⟨⟨_, rfl⟩, .inl (by rw [HD.out]; exact HJ.out)⟩
    | succ k1 =>
      have d1 : decide (i < (l0.length : Int)) = true := decide_eq_true (by have := HI.out.2.1; omega)
      have p1 : (0 ≤ i) = True := eq_true HI.out.1
      have q1 : (i < (l0.length : Int)) = True := eq_true (by have := HI.out.2.1; omega)
      obtain ⟨ad, A3, c3, e_, z0, z1, z2, z3, l3, C3⟩ := at_T91 (Kd.C_below HR0.out HB.out) i HI.out.1 (by have := HI.out.2.1; omega)
      subst e_
      have HD := Aside0.mk (show l0.drop i.toNat = (rd_T91 l0 i) :: l0.drop (i + 1).toNat by
        have hi : i.toNat < l0.length := by have := HI.out; omega
        rw [List.drop_eq_getElem_cons hi]
        unfold rd_T91
        rw [List.getD_eq_getElem?_getD, List.getElem?_eq_getElem hi, show (i + 1).toNat = i.toNat + 1 by have := HI.out; omega]
        rfl)
      have EW := Aside0.mk (show wrap64 (i + 1) = i + 1 by have := HI.out; have := HL.out; unfold wrap64; omega)
      have HP := Aside0.mk (show prs (fun x : S91 => x.f0) 0 l0 = (pre ++ [(i, (rd_T91 l0 i).f0)]) ++ prs (fun x : S91 => x.f0) (i + 1) (l0.drop (i + 1).toNat) by rw [HI.out.2.2, HD.out]; simp [prs])
      clear HD
      have hnf : ∀ V : World, (Go.binOp .neq 125 (.func (.func 68) #[] #[]) .nilFunc).run Tryd.prog V = .ok (.bool true) V := fun _ => by kernel_rfl
      gi_wp2_with (first | (refine ⟨trivial, ?_⟩; gi_at_call 68; refine (callsIn_wide.2 (name_Room.calls (rd_T91 l0 i) A3 c3 _)).mono ?_; rintro e w2 ⟨rfl, hb⟩; have HB2 := Aside0.mk (show Below wr.heap.size wr w2 from below_step (below_alloc (Below.refl _ _) _) hb); clear hb; obtain ⟨fn, tmps, assign, body, hy, hR⟩ := HY.out pre (i, (rd_T91 l0 i).f0) w2 (HE.out _ _ _ HJ.out HB2.out) (by rw [HP.out]; exact ⟨_, rfl⟩); have HR := Aside0.mk hR; clear hR))
      refine HR.out.mono ?_
      rintro e W3 (⟨rfl, hJ3, hk3⟩ | ⟨rfl, hx3, hk3⟩)
      · have HJ3 := Aside0.mk hJ3
        have HB3 := Aside0.mk ((below_step HB.out HB2.out).trans hk3)
        clear hJ3 hk3 hy hnf z0 z1 z2 z3
        gi_wp2
        gi_roundg k1
        case measure => omega
        case rel => exact ⟨wrap64 (i + 1), pre ++ [(i, (rd_T91 l0 i).f0)], rfl, by rw [EW.out]; exact ⟨by have := HI.out; omega, by have := HI.out; omega, HP.out⟩, HB3, HJ3⟩
      · have HX3 := Aside0.mk hx3
        clear hx3 hk3 hy hnf z0 z1 z2 z3
        gi_wp2
        refine bodyPost_ret (results_none rfl _ _ _) rfl ?_
        exact ⟨⟨_, rfl⟩, .inr ⟨_, HX3.out⟩⟩
set_option maxHeartbeats 4000000 in
theorem name_Person.calls (x : S95) (A1 : Option Addr) (c1 : Nat) (W : World) : Calls Tryd.prog 70 #[.agg #[.string x.f0, .slice A1 x.f1.length c1]] W fun e W' => e = .returned (.string x.f0) ∧ Below W.heap.size W W' := by
  have hu := Tryd.underlying95
  go_enter Tryd.func70, Tryd.ntmps70
  go_wp2
  go_ret
  exact ⟨rfl, (Below.refl _ _).alloc (Nat.le_refl _) _⟩
set_option maxHeartbeats 8000000 in
set_option maxRecDepth 100000 in
theorem each_Person (n : Nat) (hn : 1 ≤ n) (l : Nat) (A0 : Option Addr) (c0 : Nat) (l0 : List S95) (w : World) (hr0 : Kd.C k95 w A0 l0.length l0) (J Jx : List (Int × ByteArray) → World → Prop)
    (hE : ∀ pre A B, J pre A → Below A.heap.size A B → J pre B)
    (hY : ∀ pre x W1, J pre W1 → pre ++ [x] <+: prs (fun x : S95 => x.f0) 0 l0 → YieldAt Fence.wide (n - 1) Tryd.prog l #[.int .i64 x.1, .string x.2] W1 fun e W' =>
      (e = .returned (.bool true) ∧ J (pre ++ [x]) W' ∧ Below w.heap.size W1 W') ∨ (e = .returned (.bool false) ∧ Jx (pre ++ [x]) W' ∧ Below w.heap.size W1 W'))
    (W : World) (hW : Below w.heap.size w W) (h0 : J [] W) :
    CallsIn Fence.wide n Tryd.prog 69 #[.slice A0 l0.length c0, .func (.func 70) #[] #[], .func (.yield l) #[] #[]] W fun e W' => (∃ v, e = .returned v) ∧ (J (prs (fun x : S95 => x.f0) 0 l0) W' ∨ (∃ pre, Jx pre W')) := by
  have hu := Tryd.underlying95
  have HR0 := Aside0.mk hr0
  have HL := Aside0.mk hr0.2.1
  have HE := Aside0.mk hE
  have HY := Aside0.mk hY
  clear hr0 hE hY
  refine callsIn_of_wp Tryd.func69 rfl trivial ?_ rfl
  simp only [Tryd.ntmps69, List.size_toArray, List.length_cons, List.length_nil, Nat.reduceAdd, Nat.reduceSub, Array.replicate_succ, Array.replicate_zero, List.push_toArray, List.append_toArray, List.nil_append, List.cons_append]
  gi_wp2
  gi_loopg [11] l0.length (fun kq v11 wr => ∃ (i : Int) (pre : List (Int × ByteArray)), v11 = .int .i64 i ∧ Aside0 (0 ≤ i ∧ i + kq = l0.length ∧ prs (fun x : S95 => x.f0) 0 l0 = pre ++ prs (fun x : S95 => x.f0) i (l0.drop i.toNat)) ∧ Aside0 (Below w.heap.size w wr) ∧ Aside0 (J pre wr))
  case atStart => exact ⟨0, [], rfl, ⟨by omega, by omega, rfl⟩, ⟨hW⟩, ⟨h0⟩⟩
  case round =>
    obtain ⟨i, pre, rfl, HI, HB, HJ⟩ := hrel
    cases gk with
    | zero =>
      have d1 : decide (i < (l0.length : Int)) = false := decide_eq_false (by have := HI.out.2.1; omega)
      have HD := Aside0.mk (show prs (fun x : S95 => x.f0) 0 l0 = pre by rw [HI.out.2.2, List.drop_of_length_le (by have := HI.out.2.1; omega)]; simp [prs])
      gi_wp2
      go_end0
      exact ⟨⟨_, rfl⟩, .inl (by rw [HD.out]; exact HJ.out)⟩
    | succ k1 =>
      have d1 : decide (i < (l0.length : Int)) = true := decide_eq_true (by have := HI.out.2.1; omega)
      have p1 : (0 ≤ i) = True := eq_true HI.out.1
      have q1 : (i < (l0.length : Int)) = True := eq_true (by have := HI.out.2.1; omega)
      obtain ⟨ad, A1, c1, e_, z0, z1, l1, C1⟩ := at_T95 (Kd.C_below HR0.out HB.out) i HI.out.1 (by have := HI.out.2.1; omega)
      subst e_
      have HD := Aside0.mk (show l0.drop i.toNat = (rd_T95 l0 i) :: l0.drop (i + 1).toNat by
        have hi : i.toNat < l0.length := by have := HI.out; omega
        rw [List.drop_eq_getElem_cons hi]
        unfold rd_T95
        rw [List.getD_eq_getElem?_getD, List.getElem?_eq_getElem hi, show (i + 1).toNat = i.toNat + 1 by have := HI.out; omega]
        rfl)
      have EW := Aside0.mk (show wrap64 (i + 1) = i + 1 by have := HI.out; have := HL.out; unfold wrap64; omega)
      have HP := Aside0.mk (show prs (fun x : S95 => x.f0) 0 l0 = (pre ++ [(i, (rd_T95 l0 i).f0)]) ++ prs (fun x : S95 => x.f0) (i + 1) (l0.drop (i + 1).toNat) by rw [HI.out.2.2, HD.out]; simp [prs])
      clear HD
      have hnf : ∀ V : World, (Go.binOp .neq 127 (.func (.func 70) #[] #[]) .nilFunc).run Tryd.prog V = .ok (.bool true) V := fun _ => by kernel_rfl
      gi_wp2_with (first | (refine ⟨trivial, ?_⟩; gi_at_call 70; refine (callsIn_wide.2 (name_Person.calls (rd_T95 l0 i) A1 c1 _)).mono ?_; rintro e w2 ⟨rfl, hb⟩; have HB2 := Aside0.mk (show Below wr.heap.size wr w2 from below_step (below_alloc (Below.refl _ _) _) hb); clear hb; obtain ⟨fn, tmps, assign, body, hy, hR⟩ := HY.out pre (i, (rd_T95 l0 i).f0) w2 (HE.out _ _ _ HJ.out HB2.out) (by rw [HP.out]; exact ⟨_, rfl⟩); have HR := Aside0.mk hR; clear hR))
      refine HR.out.mono ?_
      rintro e W3 (⟨rfl, hJ3, hk3⟩ | ⟨rfl, hx3, hk3⟩)
      · have HJ3 := Aside0.mk hJ3
        have HB3 := Aside0.mk ((below_step HB.out HB2.out).trans hk3)
        clear hJ3 hk3 hy hnf z0 z1
        gi_wp2
        gi_roundg k1
        case measure => omega
        case rel => exact ⟨wrap64 (i + 1), pre ++ [(i, (rd_T95 l0 i).f0)], rfl, by rw [EW.out]; exact ⟨by have := HI.out; omega, by have := HI.out; omega, HP.out⟩, HB3, HJ3⟩
      · have HX3 := Aside0.mk hx3
        clear hx3 hk3 hy hnf z0 z1
        gi_wp2
        refine bodyPost_ret (results_none rfl _ _ _) rfl ?_
        exact ⟨⟨_, rfl⟩, .inr ⟨_, HX3.out⟩⟩
set_option maxHeartbeats 4000000 in
theorem name_Group.calls (x : S98) (W : World) : Calls Tryd.prog 72 #[.agg #[.string x.f0, .int .i64 x.f1]] W fun e W' => e = .returned (.string x.f0) ∧ Below W.heap.size W W' := by
  have hu := Tryd.underlying98
  go_enter Tryd.func72, Tryd.ntmps72
  go_wp2
  go_ret
  exact ⟨rfl, (Below.refl _ _).alloc (Nat.le_refl _) _⟩
set_option maxHeartbeats 8000000 in
set_option maxRecDepth 100000 in
theorem each_Group (n : Nat) (hn : 1 ≤ n) (l : Nat) (A0 : Option Addr) (c0 : Nat) (l0 : List S98) (w : World) (hr0 : Kd.C k98 w A0 l0.length l0) (J Jx : List (Int × ByteArray) → World → Prop)
    (hE : ∀ pre A B, J pre A → Below A.heap.size A B → J pre B)
    (hY : ∀ pre x W1, J pre W1 → pre ++ [x] <+: prs (fun x : S98 => x.f0) 0 l0 → YieldAt Fence.wide (n - 1) Tryd.prog l #[.int .i64 x.1, .string x.2] W1 fun e W' =>
      (e = .returned (.bool true) ∧ J (pre ++ [x]) W' ∧ Below w.heap.size W1 W') ∨ (e = .returned (.bool false) ∧ Jx (pre ++ [x]) W' ∧ Below w.heap.size W1 W'))
    (W : World) (hW : Below w.heap.size w W) (h0 : J [] W) :
    CallsIn Fence.wide n Tryd.prog 71 #[.slice A0 l0.length c0, .func (.func 72) #[] #[], .func (.yield l) #[] #[]] W fun e W' => (∃ v, e = .returned v) ∧ (J (prs (fun x : S98 => x.f0) 0 l0) W' ∨ (∃ pre, Jx pre W')) := by
  have hu := Tryd.underlying98
  have HR0 := Aside0.mk hr0
  have HL := Aside0.mk hr0.2.1
  have HE := Aside0.mk hE
  have HY := Aside0.mk hY
  clear hr0 hE hY
  refine callsIn_of_wp Tryd.func71 rfl trivial ?_ rfl
  simp only [Tryd.ntmps71, List.size_toArray, List.length_cons, List.length_nil, Nat.reduceAdd, Nat.reduceSub, Array.replicate_succ, Array.replicate_zero, List.push_toArray, List.append_toArray, List.nil_append, List.cons_append]
  gi_wp2
  gi_loopg [11] l0.length (fun kq v11 wr => ∃ (i : Int) (pre : List (Int × ByteArray)), v11 = .int .i64 i ∧ Aside0 (0 ≤ i ∧ i + kq = l0.length ∧ prs (fun x : S98 => x.f0) 0 l0 = pre ++ prs (fun x : S98 => x.f0) i (l0.drop i.toNat)) ∧ Aside0 (Below w.heap.size w wr) ∧ Aside0 (J pre wr))
  case atStart => exact ⟨0, [], rfl, ⟨by omega, by omega, rfl⟩, ⟨hW⟩, ⟨h0⟩⟩
  case round =>
    obtain ⟨i, pre, rfl, HI, HB, HJ⟩ := hrel
    cases gk with
    | zero =>
      have d1 : decide (i < (l0.length : Int)) = false := decide_eq_false (by have := HI.out.2.1; omega)
      have HD := Aside0.mk (show prs (fun x : S98 => x.f0) 0 l0 = pre by rw [HI.out.2.2, List.drop_of_length_le (by have := HI.out.2.1; omega)]; simp [prs])
      gi_wp2
      go_end0
      exact ⟨⟨_, rfl⟩, .inl (by rw [HD.out]; exact HJ.out)⟩
    | succ k1 =>
      have d1 : decide (i < (l0.length : Int)) = true := decide_eq_true (by have := HI.out.2.1; omega)
      have p1 : (0 ≤ i) = True := eq_true HI.out.1
      have q1 : (i < (l0.length : Int)) = True := eq_true (by have := HI.out.2.1; omega)
      obtain ⟨ad, e_, z0, z1⟩ := at_T98 (Kd.C_below HR0.out HB.out) i HI.out.1 (by have := HI.out.2.1; omega)
      subst e_
      have HD := Aside0.mk (show l0.drop i.toNat = (rd_T98 l0 i) :: l0.drop (i + 1).toNat by
        have hi : i.toNat < l0.length := by have := HI.out; omega
        rw [List.drop_eq_getElem_cons hi]
        unfold rd_T98
        rw [List.getD_eq_getElem?_getD, List.getElem?_eq_getElem hi, show (i + 1).toNat = i.toNat + 1 by have := HI.out; omega]
        rfl)
      have EW := Aside0.mk (show wrap64 (i + 1) = i + 1 by have := HI.out; have := HL.out; unfold wrap64; omega)
      have HP := Aside0.mk (show prs (fun x : S98 => x.f0) 0 l0 = (pre ++ [(i, (rd_T98 l0 i).f0)]) ++ prs (fun x : S98 => x.f0) (i + 1) (l0.drop (i + 1).toNat) by rw [HI.out.2.2, HD.out]; simp [prs])
      clear HD
      have hnf : ∀ V : World, (Go.binOp .neq 129 (.func (.func 72) #[] #[]) .nilFunc).run Tryd.prog V = .ok (.bool true) V := fun _ => by kernel_rfl
      gi_wp2_with (first | (refine ⟨trivial, ?_⟩; gi_at_call 72; refine (callsIn_wide.2 (name_Group.calls (rd_T98 l0 i) _)).mono ?_; rintro e w2 ⟨rfl, hb⟩; have HB2 := Aside0.mk (show Below wr.heap.size wr w2 from below_step (below_alloc (Below.refl _ _) _) hb); clear hb; obtain ⟨fn, tmps, assign, body, hy, hR⟩ := HY.out pre (i, (rd_T98 l0 i).f0) w2 (HE.out _ _ _ HJ.out HB2.out) (by rw [HP.out]; exact ⟨_, rfl⟩); have HR := Aside0.mk hR; clear hR))
      refine HR.out.mono ?_
      rintro e W3 (⟨rfl, hJ3, hk3⟩ | ⟨rfl, hx3, hk3⟩)
      · have HJ3 := Aside0.mk hJ3
        have HB3 := Aside0.mk ((below_step HB.out HB2.out).trans hk3)
        clear hJ3 hk3 hy hnf z0 z1
        gi_wp2
        gi_roundg k1
        case measure => omega
        case rel => exact ⟨wrap64 (i + 1), pre ++ [(i, (rd_T98 l0 i).f0)], rfl, by rw [EW.out]; exact ⟨by have := HI.out; omega, by have := HI.out; omega, HP.out⟩, HB3, HJ3⟩
      · have HX3 := Aside0.mk hx3
        clear hx3 hk3 hy hnf z0 z1
        gi_wp2
        refine bodyPost_ret (results_none rfl _ _ _) rfl ?_
        exact ⟨⟨_, rfl⟩, .inr ⟨_, HX3.out⟩⟩
def namesOf (x : S45) (sort : Int) : List (Int × ByteArray) :=
  if sort = 1 then prs (fun y : S101 => y.f0) 0 x.f4 else if sort = 2 then prs (fun y : S87 => y.f0) 0 x.f0 else if sort = 3 then prs (fun y : S91 => y.f0) 0 x.f1 else if sort = 4 then prs (fun y : S95 => y.f0) 0 x.f2 else prs (fun y : S98 => y.f0) 0 x.f3
set_option maxHeartbeats 4000000 in
theorem elements_calls (D0 D1 D2 D3 D4 : Option Addr) (e0 e1 e2 e3 e4 : Nat) (x : S45) (sort : Int) (w : World) :
    Calls Tryd.prog 45 #[.agg #[.slice D0 x.f0.length e0, .slice D1 x.f1.length e1, .slice D2 x.f2.length e2, .slice D3 x.f3.length e3, .slice D4 x.f4.length e4], .int .i64 sort] w fun e w' => e = .returned (.func (.func 62) #[] #[.pointer (some ⟨w.heap.size + 1, 0, none⟩), .pointer (some ⟨w.heap.size, 0, none⟩)]) ∧ w' = (w.alloc (.cells #[.slice D0 x.f0.length e0, .slice D1 x.f1.length e1, .slice D2 x.f2.length e2, .slice D3 x.f3.length e3, .slice D4 x.f4.length e4] 45)).alloc (.cells #[.int .i64 sort] 3) := by
  have hu := Tryd.underlying45
  go_enter Tryd.func45, Tryd.ntmps45
  go_wp2
  go_ret
  exact ⟨rfl, rfl⟩
set_option maxHeartbeats 8000000 in
set_option maxRecDepth 100000 in
theorem elements1_Lesson (n : Nat) (hn : 2 ≤ n) (Bs Bt : Nat) (D0 D1 D2 D3 D4 : Option Addr) (e0 e1 e2 e3 e4 : Nat) (x : S45) (w0 w : World) (hr0 : Kd.C k101 w0 D4 x.f4.length x.f4) (hw : Below w0.heap.size w0 w) (hS : w.heap[Bs]? = some (.cells #[.slice D0 x.f0.length e0, .slice D1 x.f1.length e1, .slice D2 x.f2.length e2, .slice D3 x.f3.length e3, .slice D4 x.f4.length e4] 45 (0, 0))) (hT : w.heap[Bt]? = some (.cells #[.int .i64 1] 3 (0, 0))) :
    IterE Fence.wide n Tryd.prog 62 #[.pointer (some ⟨Bt, 0, none⟩), .pointer (some ⟨Bs, 0, none⟩)] (fun y : Int × ByteArray => #[.int .i64 y.1, .string y.2]) (Below w0.heap.size) (fun _ A B => Below A.heap.size A B) (prs (fun y : S101 => y.f0) 0 x.f4) w := by
  intro l J Jx W hW hJE hY h0
  have hS1 := blk_below hS hW
  have hT1 := blk_below hT hW
  have hs : W.cell? ⟨Bs, 4, none⟩ = some (.slice D4 x.f4.length e4) := (blk_cell hS1 4).trans rfl
  have ht : W.cell? ⟨Bt, 0, none⟩ = some (.int .i64 1) := (blk_cell hT1 0).trans rfl
  have HC := Aside0.mk (each_Lesson (n - 1) (by omega) l D4 e4 x.f4 w0 hr0 J Jx hJE (fun pre y W1 hj hp => YieldAt.anyWide (n - 1 - 1) (hY pre y W1 hj hp)) W (hw.trans (hW.mono hw.size)) h0)
  clear hY hJE h0 hS hT hS1 hT1 hr0 hw hW
  have hu := Tryd.underlying45
  have hn1 : 1 ≤ n := by omega
  refine callsIn_of_wp Tryd.func62 rfl trivial ?_ rfl
  simp only [Tryd.ntmps62, List.size_toArray, List.length_cons, List.length_nil, Nat.reduceAdd, Nat.reduceSub, Array.replicate_succ, Array.replicate_zero, List.push_toArray, List.append_toArray, List.nil_append, List.cons_append]
  gi_wp2_with (first | (refine ⟨trivial, ?_⟩; gi_at_call 63; refine HC.out.mono ?_; rintro e w2 ⟨⟨v, rfl⟩, h⟩; have HH := Aside0.mk h; clear h))
  go_end0
  exact ⟨⟨_, rfl⟩, HH.out⟩
set_option maxHeartbeats 8000000 in
set_option maxRecDepth 100000 in
theorem elements1_Slot (n : Nat) (hn : 2 ≤ n) (Bs Bt : Nat) (D0 D1 D2 D3 D4 : Option Addr) (e0 e1 e2 e3 e4 : Nat) (x : S45) (w0 w : World) (hr0 : Kd.C k87 w0 D0 x.f0.length x.f0) (hw : Below w0.heap.size w0 w) (hS : w.heap[Bs]? = some (.cells #[.slice D0 x.f0.length e0, .slice D1 x.f1.length e1, .slice D2 x.f2.length e2, .slice D3 x.f3.length e3, .slice D4 x.f4.length e4] 45 (0, 0))) (hT : w.heap[Bt]? = some (.cells #[.int .i64 2] 3 (0, 0))) :
    IterE Fence.wide n Tryd.prog 62 #[.pointer (some ⟨Bt, 0, none⟩), .pointer (some ⟨Bs, 0, none⟩)] (fun y : Int × ByteArray => #[.int .i64 y.1, .string y.2]) (Below w0.heap.size) (fun _ A B => Below A.heap.size A B) (prs (fun y : S87 => y.f0) 0 x.f0) w := by
  intro l J Jx W hW hJE hY h0
  have hS1 := blk_below hS hW
  have hT1 := blk_below hT hW
  have hs : W.cell? ⟨Bs, 0, none⟩ = some (.slice D0 x.f0.length e0) := (blk_cell hS1 0).trans rfl
  have ht : W.cell? ⟨Bt, 0, none⟩ = some (.int .i64 2) := (blk_cell hT1 0).trans rfl
  have HC := Aside0.mk (each_Slot (n - 1) (by omega) l D0 e0 x.f0 w0 hr0 J Jx hJE (fun pre y W1 hj hp => YieldAt.anyWide (n - 1 - 1) (hY pre y W1 hj hp)) W (hw.trans (hW.mono hw.size)) h0)
  clear hY hJE h0 hS hT hS1 hT1 hr0 hw hW
  have hu := Tryd.underlying45
  have hn1 : 1 ≤ n := by omega
  refine callsIn_of_wp Tryd.func62 rfl trivial ?_ rfl
  simp only [Tryd.ntmps62, List.size_toArray, List.length_cons, List.length_nil, Nat.reduceAdd, Nat.reduceSub, Array.replicate_succ, Array.replicate_zero, List.push_toArray, List.append_toArray, List.nil_append, List.cons_append]
  gi_wp2_with (first | (refine ⟨trivial, ?_⟩; gi_at_call 65; refine HC.out.mono ?_; rintro e w2 ⟨⟨v, rfl⟩, h⟩; have HH := Aside0.mk h; clear h))
  go_end0
  exact ⟨⟨_, rfl⟩, HH.out⟩
set_option maxHeartbeats 8000000 in
set_option maxRecDepth 100000 in
theorem elements1_Room (n : Nat) (hn : 2 ≤ n) (Bs Bt : Nat) (D0 D1 D2 D3 D4 : Option Addr) (e0 e1 e2 e3 e4 : Nat) (x : S45) (w0 w : World) (hr0 : Kd.C k91 w0 D1 x.f1.length x.f1) (hw : Below w0.heap.size w0 w) (hS : w.heap[Bs]? = some (.cells #[.slice D0 x.f0.length e0, .slice D1 x.f1.length e1, .slice D2 x.f2.length e2, .slice D3 x.f3.length e3, .slice D4 x.f4.length e4] 45 (0, 0))) (hT : w.heap[Bt]? = some (.cells #[.int .i64 3] 3 (0, 0))) :
    IterE Fence.wide n Tryd.prog 62 #[.pointer (some ⟨Bt, 0, none⟩), .pointer (some ⟨Bs, 0, none⟩)] (fun y : Int × ByteArray => #[.int .i64 y.1, .string y.2]) (Below w0.heap.size) (fun _ A B => Below A.heap.size A B) (prs (fun y : S91 => y.f0) 0 x.f1) w := by
  intro l J Jx W hW hJE hY h0
  have hS1 := blk_below hS hW
  have hT1 := blk_below hT hW
  have hs : W.cell? ⟨Bs, 1, none⟩ = some (.slice D1 x.f1.length e1) := (blk_cell hS1 1).trans rfl
  have ht : W.cell? ⟨Bt, 0, none⟩ = some (.int .i64 3) := (blk_cell hT1 0).trans rfl
  have HC := Aside0.mk (each_Room (n - 1) (by omega) l D1 e1 x.f1 w0 hr0 J Jx hJE (fun pre y W1 hj hp => YieldAt.anyWide (n - 1 - 1) (hY pre y W1 hj hp)) W (hw.trans (hW.mono hw.size)) h0)
  clear hY hJE h0 hS hT hS1 hT1 hr0 hw hW
  have hu := Tryd.underlying45
  have hn1 : 1 ≤ n := by omega
  refine callsIn_of_wp Tryd.func62 rfl trivial ?_ rfl
  simp only [Tryd.ntmps62, List.size_toArray, List.length_cons, List.length_nil, Nat.reduceAdd, Nat.reduceSub, Array.replicate_succ, Array.replicate_zero, List.push_toArray, List.append_toArray, List.nil_append, List.cons_append]
  gi_wp2_with (first | (refine ⟨trivial, ?_⟩; gi_at_call 67; refine HC.out.mono ?_; rintro e w2 ⟨⟨v, rfl⟩, h⟩; have HH := Aside0.mk h; clear h))
  go_end0
  exact ⟨⟨_, rfl⟩, HH.out⟩
set_option maxHeartbeats 8000000 in
set_option maxRecDepth 100000 in
theorem elements1_Person (n : Nat) (hn : 2 ≤ n) (Bs Bt : Nat) (D0 D1 D2 D3 D4 : Option Addr) (e0 e1 e2 e3 e4 : Nat) (x : S45) (w0 w : World) (hr0 : Kd.C k95 w0 D2 x.f2.length x.f2) (hw : Below w0.heap.size w0 w) (hS : w.heap[Bs]? = some (.cells #[.slice D0 x.f0.length e0, .slice D1 x.f1.length e1, .slice D2 x.f2.length e2, .slice D3 x.f3.length e3, .slice D4 x.f4.length e4] 45 (0, 0))) (hT : w.heap[Bt]? = some (.cells #[.int .i64 4] 3 (0, 0))) :
    IterE Fence.wide n Tryd.prog 62 #[.pointer (some ⟨Bt, 0, none⟩), .pointer (some ⟨Bs, 0, none⟩)] (fun y : Int × ByteArray => #[.int .i64 y.1, .string y.2]) (Below w0.heap.size) (fun _ A B => Below A.heap.size A B) (prs (fun y : S95 => y.f0) 0 x.f2) w := by
  intro l J Jx W hW hJE hY h0
  have hS1 := blk_below hS hW
  have hT1 := blk_below hT hW
  have hs : W.cell? ⟨Bs, 2, none⟩ = some (.slice D2 x.f2.length e2) := (blk_cell hS1 2).trans rfl
  have ht : W.cell? ⟨Bt, 0, none⟩ = some (.int .i64 4) := (blk_cell hT1 0).trans rfl
  have HC := Aside0.mk (each_Person (n - 1) (by omega) l D2 e2 x.f2 w0 hr0 J Jx hJE (fun pre y W1 hj hp => YieldAt.anyWide (n - 1 - 1) (hY pre y W1 hj hp)) W (hw.trans (hW.mono hw.size)) h0)
  clear hY hJE h0 hS hT hS1 hT1 hr0 hw hW
  have hu := Tryd.underlying45
  have hn1 : 1 ≤ n := by omega
  refine callsIn_of_wp Tryd.func62 rfl trivial ?_ rfl
  simp only [Tryd.ntmps62, List.size_toArray, List.length_cons, List.length_nil, Nat.reduceAdd, Nat.reduceSub, Array.replicate_succ, Array.replicate_zero, List.push_toArray, List.append_toArray, List.nil_append, List.cons_append]
  gi_wp2_with (first | (refine ⟨trivial, ?_⟩; gi_at_call 69; refine HC.out.mono ?_; rintro e w2 ⟨⟨v, rfl⟩, h⟩; have HH := Aside0.mk h; clear h))
  go_end0
  exact ⟨⟨_, rfl⟩, HH.out⟩
set_option maxHeartbeats 8000000 in
set_option maxRecDepth 100000 in
theorem elements1_Group (n : Nat) (hn : 2 ≤ n) (Bs Bt : Nat) (D0 D1 D2 D3 D4 : Option Addr) (e0 e1 e2 e3 e4 : Nat) (x : S45) (w0 w : World) (hr0 : Kd.C k98 w0 D3 x.f3.length x.f3) (hw : Below w0.heap.size w0 w) (hS : w.heap[Bs]? = some (.cells #[.slice D0 x.f0.length e0, .slice D1 x.f1.length e1, .slice D2 x.f2.length e2, .slice D3 x.f3.length e3, .slice D4 x.f4.length e4] 45 (0, 0))) (hT : w.heap[Bt]? = some (.cells #[.int .i64 5] 3 (0, 0))) :
    IterE Fence.wide n Tryd.prog 62 #[.pointer (some ⟨Bt, 0, none⟩), .pointer (some ⟨Bs, 0, none⟩)] (fun y : Int × ByteArray => #[.int .i64 y.1, .string y.2]) (Below w0.heap.size) (fun _ A B => Below A.heap.size A B) (prs (fun y : S98 => y.f0) 0 x.f3) w := by
  intro l J Jx W hW hJE hY h0
  have hS1 := blk_below hS hW
  have hT1 := blk_below hT hW
  have hs : W.cell? ⟨Bs, 3, none⟩ = some (.slice D3 x.f3.length e3) := (blk_cell hS1 3).trans rfl
  have ht : W.cell? ⟨Bt, 0, none⟩ = some (.int .i64 5) := (blk_cell hT1 0).trans rfl
  have HC := Aside0.mk (each_Group (n - 1) (by omega) l D3 e3 x.f3 w0 hr0 J Jx hJE (fun pre y W1 hj hp => YieldAt.anyWide (n - 1 - 1) (hY pre y W1 hj hp)) W (hw.trans (hW.mono hw.size)) h0)
  clear hY hJE h0 hS hT hS1 hT1 hr0 hw hW
  have hu := Tryd.underlying45
  have hn1 : 1 ≤ n := by omega
  refine callsIn_of_wp Tryd.func62 rfl trivial ?_ rfl
  simp only [Tryd.ntmps62, List.size_toArray, List.length_cons, List.length_nil, Nat.reduceAdd, Nat.reduceSub, Array.replicate_succ, Array.replicate_zero, List.push_toArray, List.append_toArray, List.nil_append, List.cons_append]
  gi_wp2_with (first | (refine ⟨trivial, ?_⟩; gi_at_call 71; refine HC.out.mono ?_; rintro e w2 ⟨⟨v, rfl⟩, h⟩; have HH := Aside0.mk h; clear h))
  go_end0
  exact ⟨⟨_, rfl⟩, HH.out⟩
end
end Go.Proofs.YtjdajlnigiicaaaDoor.S
end
section
namespace Go.Proofs.YtjdajlnigiicaaaDoorW.PrintMore
open Go.RowKit Go.Proofs.YtjdajlnigiicaaaDoorW.PrintWords Go.Proofs.YtjdajlnigiicaaaDoorW.PrintLast
structure KeyRun {β : Type} (P : Program) (kt : TypeId) (enc : β → Value) : Prop where
  check : ∀ (x : β) (em : Bool) (w : World), (Instr.checkKey em 10000 kt (enc x)).run P w = .ok () w
  find : ∀ (x : β) (es : List MapEntry) (ks : List β) (w : World), es.map (·.key) = ks.map enc → ((x ∈ ks ∧ ∃ j e, (Instr.findKey kt (enc x) es).run P w = .ok (some (j, e.val)) w ∧ e ∈ es) ∨ (x ∉ ks ∧ (Instr.findKey kt (enc x) es).run P w = .ok none w))
section
variable {P : Program} {kt : TypeId}
theorem KeyRun.strings (hk : P.underlying kt = some .string) : KeyRun P kt Value.string where
  check x em w := run_checkKey_plain hk trivial em 9999 _
  find x es ks w h := by
    have hks : ∀ e ∈ es, MapKept.IsKey .string e.key := fun e he => by
      have : e.key ∈ es.map (·.key) := List.mem_map.2 ⟨e, he, rfl⟩
      rw [h] at this
      obtain ⟨k, _, hk⟩ := List.mem_map.1 this
      rw [← hk]
      trivial
    rcases MapKept.findNow_spec (d := .string) (k := .string x) trivial es 0 hks with ⟨h1, h2⟩ | ⟨j, e0, h1, h2, h3⟩
    · refine .inr ⟨fun hm => ?_, run_findKey_now hk h1⟩
      have : Value.string x ∈ es.map (·.key) := by rw [h]; exact List.mem_map.2 ⟨x, hm, rfl⟩
      obtain ⟨e, he, hx⟩ := List.mem_map.1 this
      exact h2 e he hx
    · have hm : e0 ∈ es := List.mem_of_getElem? h2
      refine .inl ⟨?_, _, e0, run_findKey_now hk h1, hm⟩
      have : e0.key ∈ es.map (·.key) := List.mem_map.2 ⟨e0, hm, rfl⟩
      rw [h, h3] at this
      obtain ⟨k, hk, e⟩ := List.mem_map.1 this
      cases e
      exact hk
def pairV (x : Int × Int) : Value := .agg #[.int .i64 x.1, .int .i64 x.2]
theorem run_equal_pair {e : TypeId} {i : TypeInfo} (hu : P.underlying kt = some (.array 2 e)) (he : P.underlying e = some (.int .i64)) (hi : P.info? e = some i) (hc : P.cellsOf e = 1) (x y : Int × Int) (w : World) :
    (Op.equal kt (pairV x) (pairV y)).run P w = .ok (decide (x = y)) w := by
  have hp : P.plainKey e = true := by simp [Program.plainKey, he]
  obtain ⟨a, b⟩ := x
  obtain ⟨c, d⟩ := y
  obtain ⟨dd, hdd⟩ : ∃ n, Op.maxDepth = n + 1 + 1 := ⟨9998, rfl⟩
  show (Op.equalIn Op.maxDepth kt (.agg _) (.agg _)).run P w = _
  rw [hdd, run_equalIn_array w (dd + 1) _ _ hu hi, hc]
  have g0 : ∀ (u v : Int), (part e #[.int .i64 u, .int .i64 v] 0).run P w = .ok (.int .i64 u) w := fun u v => run_part_plain w hp rfl
  have g1 : ∀ (u v : Int), (part e #[.int .i64 u, .int .i64 v] 1).run P w = .ok (.int .i64 v) w := fun u v => run_part_plain w hp rfl
  have q : ∀ u v : Int, (Op.equalIn (dd + 1) e (.int .i64 u) (.int .i64 v)).run P w = .ok (u == v) w := fun u v => by
    simp [Op.equalIn, run_underlying he]
  show (Op.eqItems (dd + 1) e 1 _ _ [0, 1]).run P w = _
  simp only [Op.eqItems, Sem.run_bind, Nat.mul_one, g0, q, Result.andThen_ok]
  by_cases h1 : a = c
  · subst h1
    by_cases h2 : b = d
    · subst h2; simp [g1, q]
    · simp [g1, q, h2]
  · simp [h1]
theorem run_check_pair {e : TypeId} {i : TypeInfo} (hu : P.underlying kt = some (.array 2 e)) (he : P.underlying e = some (.int .i64)) (hi : P.info? e = some i) (hc : P.cellsOf e = 1) (x : Int × Int) (em : Bool) (w : World) :
    (Instr.checkKey em 10000 kt (pairV x)).run P w = .ok () w := by
  have hp : P.plainKey e = true := by simp [Program.plainKey, he]
  obtain ⟨a, b⟩ := x
  have g0 : (part e #[.int .i64 a, .int .i64 b] 0).run P w = .ok (.int .i64 a) w := run_part_plain w hp rfl
  have g1 : (part e #[.int .i64 a, .int .i64 b] 1).run P w = .ok (.int .i64 b) w := run_part_plain w hp rfl
  obtain ⟨dd, hdd⟩ : ∃ n, (10000 : Nat) = n + 1 + 1 := ⟨9998, rfl⟩
  have q : ∀ u : Int, (Instr.checkKey em (dd + 1) e (.int .i64 u)).run P w = .ok () w := fun u => run_checkKey_plain he trivial em dd _
  rw [hdd]
  show (Instr.checkKey em (dd + 1 + 1) kt (.agg _)).run P w = _
  rw [Instr.checkKey]
  simp only [Sem.run_bind, run_underlying hu, Result.andThen_ok]
  simp only [Std.Legacy.Range.forIn_eq_forIn_range', Std.Legacy.Range.size, Nat.sub_zero, Nat.add_one_sub_one, Nat.div_one]
  rw [show List.range' 0 2 = [0, 1] from rfl]
  simp only [List.forIn_cons, List.forIn_nil, Sem.run_bind, run_sizeOf w hi, hc, Nat.mul_one, g0, g1, q, Result.andThen_ok, Sem.run_pure]
theorem findAsking_pairs (heq : ∀ (x y : Int × Int) (w : World), (Op.equal kt (pairV x) (pairV y)).run P w = .ok (decide (x = y)) w) (a : Int × Int) (w : World) : ∀ (es : List MapEntry) (ks : List (Int × Int)) (i : Nat), es.map (·.key) = ks.map pairV →
    ((a ∈ ks ∧ ∃ j e, (Instr.findAsking kt (pairV a) es i).run P w = .ok (some (j, e.val)) w ∧ e ∈ es) ∨ (a ∉ ks ∧ (Instr.findAsking kt (pairV a) es i).run P w = .ok none w))
  | [], [], _, _ => .inr ⟨by simp, by simp [Instr.findAsking]⟩
  | [], _ :: _, _, h => by simp at h
  | _ :: _, [], _, h => by simp at h
  | e :: es, k :: ks, i, h => by
    simp only [List.map_cons, List.cons.injEq] at h
    obtain ⟨h1, h2⟩ := h
    unfold Instr.findAsking
    rw [h1]
    simp only [Sem.run_bind, heq, Result.andThen_ok]
    by_cases hk : a = k
    · subst hk
      exact .inl ⟨by simp, i, e, by simp, by simp⟩
    · rcases findAsking_pairs heq a w es ks (i + 1) h2 with ⟨m, j, e', r, hm⟩ | ⟨m, r⟩
      · exact .inl ⟨by simp [m], j, e', by simpa [hk] using r, by simp [hm]⟩
      · exact .inr ⟨by simp [m, hk], by simpa [hk] using r⟩
theorem KeyRun.pairs {e : TypeId} {i : TypeInfo} (hu : P.underlying kt = some (.array 2 e)) (he : P.underlying e = some (.int .i64)) (hi : P.info? e = some i) (hc : P.cellsOf e = 1) : KeyRun P kt pairV where
  check x em w := run_check_pair hu he hi hc x em w
  find x es ks w h := by
    rw [run_findKey_eq w (by rw [hu]) (pairV x) es]
    exact findAsking_pairs (fun x y w => run_equal_pair hu he hi hc x y w) x w es ks 0 h
def SetAt {β : Type} (enc : β → Value) (ks : List β) (g : Nat) (w : World) : Prop := ∃ es clk, w.heap[g]? = some (.map es clk) ∧ es.toList.map (·.key) = ks.map enc ∧ ∀ e ∈ es.toList, e.val = .bool true
variable {β : Type} {enc : β → Value} {ks : List β} {g : Nat}
theorem SetAt.kept {w w1 : World} {row : Option Nat} (h : SetAt enc ks g w) (hg : w.grownBy w1 row) (hr : some g ≠ row) : SetAt enc ks g w1 := by
  obtain ⟨es, clk, hb, h1, h2⟩ := h
  exact ⟨es, clk, blk_grown hb hg hr, h1, h2⟩
theorem SetAt.below {w w1 : World} (h : SetAt enc ks g w) (hb : Below w.heap.size w w1) : SetAt enc ks g w1 := by
  obtain ⟨es, clk, hb', h1, h2⟩ := h
  exact ⟨es, clk, blk_below hb' hb, h1, h2⟩
theorem SetAt.lt {w : World} (h : SetAt enc ks g w) : g < w.heap.size := by
  obtain ⟨es, clk, hb, _⟩ := h
  exact (Array.getElem?_eq_some_iff.1 hb).1
theorem run_lookS {t et : TypeId} (hK : KeyRun P kt enc) (ht : P.underlying t = some (.map kt et)) {w : World} (hz : (zeroValue et).run P w = .ok (.bool false) w) (h : SetAt enc ks g w) (x : β) {b : Bool} (hb : b = true ↔ x ∈ ks) :
    (Instr.lookup t (.map (some g)) (enc x) false).run P w = .ok (.bool b) w := by
  obtain ⟨es, clk, hb', h1, h2⟩ := h
  rcases hK.find x es.toList ks w h1 with ⟨m, j, e, r, hm⟩ | ⟨m, r⟩
  · rw [hb.2 m]
    simp [Instr.lookup, run_underlying ht, MapKept.run_getObj_map hb', hK.check, r, Result.andThen, h2 e hm]
  · have hf : b = false := by cases b <;> simp at hb ⊢; exact m hb
    rw [hf]
    simp [Instr.lookup, run_underlying ht, MapKept.run_getObj_map hb', hK.check, r, Result.andThen, hz]
theorem run_putS {t et : TypeId} (hK : KeyRun P kt enc) (ht : P.underlying t = some (.map kt et)) {w : World} (h : SetAt enc ks g w) (x : β) (hx : x ∉ ks) :
    ∃ w1, (Instr.mapUpdate t (.map (some g)) (enc x) (.bool true)).run P w = .ok () w1 ∧ SetAt enc (ks ++ [x]) g w1 ∧ w.grownBy w1 (some g) := by
  obtain ⟨es, clk, hb, h1, h2⟩ := h
  have hgl : g < w.heap.size := (Array.getElem?_eq_some_iff.1 hb).1
  refine ⟨{ w with heap := w.heap.setIfInBounds g (.map (es.push { key := enc x, val := .bool true, born := clk }) (clk + 1)) }, ?_, ⟨es.push { key := enc x, val := .bool true, born := clk }, clk + 1, by simp [hgl], by simp [h1], ?_⟩, grown_setObj w g _⟩
  · rcases hK.find x es.toList ks w h1 with ⟨m, _⟩ | ⟨_, r⟩
    · exact absurd m hx
    · simp [Instr.mapUpdate, run_underlying ht, MapKept.run_getObj_map hb, hK.check, r, MapKept.run_setObj_map _ hb, Result.andThen]
  · intro e he
    simp at he
    rcases he with he | rfl
    · exact h2 e (by simpa using he)
    · rfl
variable {ops : Array Oper} {rest : List Oper} {o : Oper} {a : Act} {Q : Exit → Act → World → Prop} {F : Fence} {n : Nat} {W : World}
theorem mapS_event (hgd : o.guard = none) {N : Tmp} (hd : o.dst = some N) {t : TypeId} (hop : o.op = .makeMap t none)
    (h : ∀ g, g = W.heap.size → ∀ w1, SetAt enc [] g w1 → Below W.heap.size W w1 → wpList P ops Q rest (a.put o.dst (.map (some g))) w1) : wpList P ops Q (o :: rest) a W :=
  map_event hgd hd hop fun g hg w1 hm hb => h g hg w1 ⟨#[], 0, hm, by simp, by simp⟩ hb
theorem lookS_event (hgd : o.guard = none) {N : Tmp} (_hd : o.dst = some N) {t et : TypeId} {m k : Operand} (hop : o.op = .lookup t m k false) (hK : KeyRun P kt enc) (ht : P.underlying t = some (.map kt et)) (hz : (zeroValue et).run P W = .ok (.bool false) W)
    (hs : SetAt enc ks g W) (hm : a.eval m = .map (some g)) {x : β} (hkey : a.eval k = enc x) {b : Bool} (hb : b = true ↔ x ∈ ks) (h : wpList P ops Q rest (a.put o.dst (.bool b)) W) : wpList P ops Q (o :: rest) a W := by
  have hrun : (execOp a.eval o).run P W = .ok (.value (.bool b)) W := by
    unfold execOp
    simp [hop, hm, hkey, run_lookS hK ht hz hs x hb, Result.andThen]
  exact Kd.event_run hgd hrun h
theorem putS_event (hgd : o.guard = none) (hN : o.dst = none) {t et : TypeId} {m k v : Operand} (hop : o.op = .mapUpdate t m k v) (hK : KeyRun P kt enc) (ht : P.underlying t = some (.map kt et))
    (hs : SetAt enc ks g W) (hm : a.eval m = .map (some g)) {x : β} (hkey : a.eval k = enc x) (hv : a.eval v = .bool true) (hx : x ∉ ks) (h : ∀ w1, SetAt enc (ks ++ [x]) g w1 → W.grownBy w1 (some g) → wpList P ops Q rest a w1) : wpList P ops Q (o :: rest) a W := by
  obtain ⟨w1, hr, h1, h2⟩ := run_putS hK ht hs x hx
  have hrun : (execOp a.eval o).run P W = .ok .skip w1 := by
    unfold execOp
    simp [hop, hm, hkey, hv, hr]
  refine wpList_plain hgd fun K hK => ?_
  unfold Oper.wp
  rw [hrun]
  show K (a.put o.dst undef) _
  rw [hN]
  exact hK _ _ (h _ h1 h2)
theorem gate_dstIn {N : Tmp} (_hN : o.dst = some N) (h : wpListIn F n P ops Q (o :: rest) a W) : wpListIn F n P ops Q (o :: rest) a W := h
theorem gate_opIn {op : Op} (_hN : o.op = op) (h : wpListIn F n P ops Q (o :: rest) a W) : wpListIn F n P ops Q (o :: rest) a W := h
theorem lookS_eventIn (hgd : o.guard = none) {t et : TypeId} {m k : Operand} (hop : o.op = .lookup t m k false) (hK : KeyRun P kt enc) (ht : P.underlying t = some (.map kt et)) (hz : (zeroValue et).run P W = .ok (.bool false) W)
    (hs : SetAt enc ks g W) (hm : a.eval m = .map (some g)) {x : β} (hkey : a.eval k = enc x) {b : Bool} (hb : b = true ↔ x ∈ ks) (h : wpListIn F n P ops Q rest (a.put o.dst (.bool b)) W) : wpListIn F n P ops Q (o :: rest) a W := by
  have hrun : (execOp a.eval o).run P W = .ok (.value (.bool b)) W := by
    unfold execOp
    simp [hop, hm, hkey, run_lookS hK ht hz hs x hb, Result.andThen]
  refine wpListIn_plain hgd fun K hK => ?_
  unfold Oper.wpIn
  refine ⟨?_, ?_⟩
  · intro f hf
    simp [Oper.about, hop] at hf
  · rw [Oper.semAt_plain F _ _ (by rw [hop]; intro c hc'; cases hc')]
    rw [hrun]
    exact hK _ _ h
theorem putS_eventIn (hgd : o.guard = none) (hN : o.dst = none) {t et : TypeId} {m k v : Operand} (hop : o.op = .mapUpdate t m k v) (hK : KeyRun P kt enc) (ht : P.underlying t = some (.map kt et))
    (hs : SetAt enc ks g W) (hm : a.eval m = .map (some g)) {x : β} (hkey : a.eval k = enc x) (hv : a.eval v = .bool true) (hx : x ∉ ks) (h : ∀ w1, SetAt enc (ks ++ [x]) g w1 → W.grownBy w1 (some g) → wpListIn F n P ops Q rest a w1) : wpListIn F n P ops Q (o :: rest) a W := by
  obtain ⟨w1, hr, h1, h2⟩ := run_putS hK ht hs x hx
  have hrun : (execOp a.eval o).run P W = .ok .skip w1 := by
    unfold execOp
    simp [hop, hm, hkey, hv, hr]
  refine wpListIn_plain hgd fun K hK => ?_
  unfold Oper.wpIn
  refine ⟨?_, ?_⟩
  · intro f hf
    simp [Oper.about, hop] at hf
  · rw [Oper.semAt_plain F _ _ (by rw [hop]; intro c hc'; cases hc')]
    rw [hrun]
    show K (a.put o.dst undef) _
    rw [hN]
    exact hK _ _ (h _ h1 h2)
end
def Marks (B : Nat) (ds : List Deferred) (w : World) : Prop := ∃ Ds : List Nat, ds = Ds.map (fun D => { target := .collected D, args := #[] }) ∧ Ds.Nodup ∧ ∀ D ∈ Ds, B ≤ D ∧ w.heap[D]? = some (.deferred (some []))
theorem Marks.nil (B : Nat) (w : World) : Marks B [] w := ⟨[], rfl, by simp, by simp⟩
theorem Marks.kept {B : Nat} {ds : List Deferred} {w w1 : World} (h : Marks B ds w) (hk : ∀ (D : Nat), B ≤ D → w.heap[D]? = some (.deferred (some [])) → w1.heap[D]? = some (.deferred (some []))) : Marks B ds w1 := by
  obtain ⟨Ds, e, hn, hm⟩ := h
  exact ⟨Ds, e, hn, fun D hD => ⟨(hm D hD).1, hk D (hm D hD).1 (hm D hD).2⟩⟩
theorem Marks.below {B : Nat} {ds : List Deferred} {w w1 : World} (h : Marks B ds w) (hb : Below w.heap.size w w1) : Marks B ds w1 := h.kept fun _ _ hd => blk_below hd hb
theorem Marks.grown {B g : Nat} {ds : List Deferred} {w w1 : World} (h : Marks B ds w) (hg : w.grownBy w1 (some g)) (hne : w.heap[g]? ≠ some (.deferred (some []))) : Marks B ds w1 :=
  h.kept fun D _ hd => blk_grown hd hg (by intro e; cases e; exact hne hd)
theorem post_marks {P : Program} {fn : Func} {R : Ending → World → Prop} {a : Act} {W : World} {B : Nat} {v : Value} (hM : Marks B a.defers W)
    (hv : ∀ W', Below B W W' → (∀ (k : Nat) (o : Obj), W.heap[k]? = some o → o.isCells = true → W'.heap[k]? = some o) → (results fn a.tmps).run P W' = .ok v W' ∧ R (.returned v) W') (hB : B ≤ W.heap.size) : bodyPostM Fence.wide 9 P fn R .ret a W := by
  show LeavesInM Fence.wide 9 P fn a.tmps R a.defers .returning W
  obtain ⟨Ds, e, hn, hm⟩ := hM
  rw [e]
  clear e
  induction Ds generalizing W with
  | nil =>
    obtain ⟨h1, h2⟩ := hv W (Below.refl _ W) (fun _ _ h _ => h)
    show LeavesInM Fence.wide 9 P fn a.tmps R [] .returning W
    exact ⟨v, h1, h2⟩
  | cons D Ds ih =>
    obtain ⟨hBD, hd⟩ := hm D (by simp)
    refine ⟨by simp, .inl ⟨D, _, rfl, run_takeDeferred hd, ?_⟩⟩
    have hb1 : Below B W (W.putObj D (.deferred none)) := (Below.refl B W).grown (grownBy_putObj' W D _) hB (by intro k e; cases e; exact hBD)
    refine ih ?_ (by simpa using hB) (List.nodup_cons.1 hn).2 ?_
    · intro W' hb' hc'
      refine hv W' (hb1.trans hb') fun k o hk ho => hc' k o ?_ ho
      rw [World.putObj_heap_other]
      · exact hk
      · rintro rfl
        rw [hd] at hk
        cases hk
        cases ho
    · intro D' hD'
      refine ⟨(hm D' (by simp [hD'])).1, ?_⟩
      rw [World.putObj_heap_other]
      · exact (hm D' (by simp [hD'])).2
      · rintro rfl
        exact (List.nodup_cons.1 hn).1 hD'
end Go.Proofs.YtjdajlnigiicaaaDoorW.PrintMore
end
section
namespace Go.Proofs.YtjdajlnigiicaaaDoor.S
open Go.RowKit Go.Proofs.YtjdajlnigiicaaaDoorW.PrintWords Go.Proofs.YtjdajlnigiicaaaDoorW.PrintLast Go.Proofs.YtjdajlnigiicaaaDoorW.PrintMore
set_option linter.unusedVariables false
set_option linter.unusedSimpArgs false
instance memBA (a : ByteArray) (l : List ByteArray) : Decidable (a ∈ l) := @List.instDecidableMemOfLawfulBEq ByteArray instBEqOfDecidableEq inferInstance a l
def namesOk : List ByteArray → List ByteArray → Bool
  | _, [] => true
  | met, a :: l => if a ∈ met ∨ namedB a = false then false else namesOk (met ++ [a]) l
def slotsOk : List (Int × Int) → List S87 → Bool
  | _, [] => true
  | met, a :: l => if (a.f1, a.f2) ∈ met ∨ inB a.f1 6 = false ∨ inB a.f2 11 = false then false else slotsOk (met ++ [(a.f1, a.f2)]) l
def checkS (x : S45) : Int :=
  if ¬ (namesOk [] ((namesOf x 1).map (·.2)) = true ∧ namesOk [] ((namesOf x 2).map (·.2)) = true ∧ namesOk [] ((namesOf x 3).map (·.2)) = true ∧ namesOk [] ((namesOf x 4).map (·.2)) = true ∧ namesOk [] ((namesOf x 5).map (·.2)) = true) then 1
  else if slotsOk [] x.f0 = false then 1
  else if x.f0.length = 0 ∨ x.f1.length = 0 then 1
  else if (x.f1.any (roomBad x.f0.length) || x.f2.any (personBad x.f0.length) || x.f3.any groupBad || x.f4.any (lessonBad x.f2.length x.f3.length)) = true then 1
  else if 50 < x.f0.length ∨ 32 < x.f1.length ∨ 64 < x.f2.length ∨ 64 < x.f3.length ∨ 64 < x.f4.length then 2
  else 0
def NamesFit (x : S45) : Prop := ∀ s y, y ∈ namesOf x s → y.2.size ≤ 9223372036854775807
theorem elements1_any (n : Nat) (hn : 2 ≤ n) (Bs Bt : Nat) (D0 D1 D2 D3 D4 : Option Addr) (e0 e1 e2 e3 e4 : Nat) (x : S45) (sort : Int) (h1 : 1 ≤ sort) (h5 : sort ≤ 5) (w0 w : World) (hr0 : Kd.C k87 w0 D0 x.f0.length x.f0) (hr1 : Kd.C k91 w0 D1 x.f1.length x.f1) (hr2 : Kd.C k95 w0 D2 x.f2.length x.f2) (hr3 : Kd.C k98 w0 D3 x.f3.length x.f3) (hr4 : Kd.C k101 w0 D4 x.f4.length x.f4) (hw : Below w0.heap.size w0 w) (hS : w.heap[Bs]? = some (.cells #[.slice D0 x.f0.length e0, .slice D1 x.f1.length e1, .slice D2 x.f2.length e2, .slice D3 x.f3.length e3, .slice D4 x.f4.length e4] 45 (0, 0))) (hT : w.heap[Bt]? = some (.cells #[.int .i64 sort] 3 (0, 0))) :
    IterE Fence.wide n Tryd.prog 62 #[.pointer (some ⟨Bt, 0, none⟩), .pointer (some ⟨Bs, 0, none⟩)] (fun y : Int × ByteArray => #[.int .i64 y.1, .string y.2]) (Below w0.heap.size) (fun _ A B => Below A.heap.size A B) (namesOf x sort) w := by
  have hc : sort = 1 ∨ sort = 2 ∨ sort = 3 ∨ sort = 4 ∨ sort = 5 := by omega
  rcases hc with rfl | rfl | rfl | rfl | rfl
  · exact elements1_Lesson n hn Bs Bt D0 D1 D2 D3 D4 e0 e1 e2 e3 e4 x w0 w hr4 hw hS hT
  · exact elements1_Slot n hn Bs Bt D0 D1 D2 D3 D4 e0 e1 e2 e3 e4 x w0 w hr0 hw hS hT
  · exact elements1_Room n hn Bs Bt D0 D1 D2 D3 D4 e0 e1 e2 e3 e4 x w0 w hr1 hw hS hT
  · exact elements1_Person n hn Bs Bt D0 D1 D2 D3 D4 e0 e1 e2 e3 e4 x w0 w hr2 hw hS hT
  · exact elements1_Group n hn Bs Bt D0 D1 D2 D3 D4 e0 e1 e2 e3 e4 x w0 w hr3 hw hS hT
def Kept (L : List Nat) (W0 W : World) : Prop := W0.heap.size ≤ W.heap.size ∧ ∀ (k : Nat) (o : Obj), k ∉ L → W0.heap[k]? = some o → W.heap[k]? = some o
theorem Kept.refl (L : List Nat) (W : World) : Kept L W W := ⟨Nat.le_refl _, fun _ _ _ h => h⟩
theorem Kept.trans {L : List Nat} {A B C : World} (h : Kept L A B) (k : Kept L B C) : Kept L A C := ⟨Nat.le_trans h.1 k.1, fun i o hi ho => k.2 i o hi (h.2 i o hi ho)⟩
theorem Kept.mono {L M : List Nat} {A B : World} (h : Kept L A B) (hl : ∀ k, k ∈ L → k ∈ M) : Kept M A B := ⟨h.1, fun i o hi ho => h.2 i o (fun hk => hi (hl i hk)) ho⟩
theorem Kept.below {L : List Nat} {A B C : World} (h : Kept L A B) (hb : Below B.heap.size B C) : Kept L A C := h.trans ⟨hb.size, fun _ _ _ ho => blk_below ho hb⟩
theorem Kept.grown {L : List Nat} {A B C : World} {row : Option Nat} (h : Kept L A B) (hg : B.grownBy C row) (hr : ∀ r, row = some r → r ∈ L ∨ A.heap.size ≤ r) : Kept L A C :=
  ⟨Nat.le_trans h.1 hg.size, fun k o hk ho => blk_grown (h.2 k o hk ho) hg (by
    intro e
    rcases hr k e.symm with h1 | h1
    · exact hk h1
    · have := (Array.getElem?_eq_some_iff.1 ho).1; omega)⟩
theorem Kept.set {L : List Nat} {A B : World} (h : Kept L A B) (a : Addr) (v : Value) (ha : a.block ∈ L) : Kept L A (B.setCell a v) :=
  ⟨by simpa [World.setCell] using h.1, fun k o hk ho => (Below.heap_setCell B a v k (fun e => hk (by rw [e]; exact ha))).trans (h.2 k o hk ho)⟩
theorem Kept.others {L : List Nat} {A B : World} (h : Kept L A B) {g : Nat} {o : Obj} (hg : g ∉ L) (ho : A.heap[g]? = some o) : B.heap[g]? = some o := h.2 g o hg ho
theorem results_box {fn : Func} {p : Tmp} {ty : TypeId} (h : fn.results = #[.cell p ty]) (tmps : Array Value) (w : World) (g t : Nat) (v : Value) (fr : Nat × Nat) (k : IntKind)
    (hp : tmps.getD p undef = .pointer (some ⟨g, 0, none⟩)) (hg : w.heap[g]? = some (.cells #[v] t fr)) (hu : Tryd.prog.underlying ty = some (.int k)) : (results fn tmps).run Tryd.prog w = .ok v w := by
  have hp' : tmps[p]?.getD undef = .pointer (some ⟨g, 0, none⟩) := by simpa using hp
  have hc : w.cell? ⟨g, 0, none⟩ = some v := (cell_of_row w g 0 #[v] t fr hg).trans rfl
  have ha : (isAgg ty).run Tryd.prog w = .ok false w := by simp [isAgg, run_underlying hu]
  simp [results, h, hp', asAddr, loadVar, ha, hc, go_sem]
end Go.Proofs.YtjdajlnigiicaaaDoor.S
end
section
namespace Go.Proofs.YtjdajlnigiicaaaDoor.S
open Go.RowKit Go.Proofs.YtjdajlnigiicaaaDoorW.PrintWords Go.Proofs.YtjdajlnigiicaaaDoorW.PrintLast Go.Proofs.YtjdajlnigiicaaaDoorW.PrintMore
set_option linter.unusedVariables false
set_option linter.unusedSimpArgs false
section
attribute [local go_sem] Oper.semAt_some
theorem check_ret {w W : World} {tmps : Array Value} {ds : List Deferred} {gr : Nat} {r v : Int} (hr : v = r) (hp : tmps.getD 2 undef = .pointer (some ⟨gr, 0, none⟩)) (hg : W.heap[gr]? = some (.cells #[.int .i64 v] 28 (0, 0))) (hM : Marks w.heap.size ds W) (hb : Below w.heap.size w W) :
    bodyPostM Fence.wide 9 Tryd.prog Tryd.f26 (fun e w' => e = .returned (.int .i64 r) ∧ Below w.heap.size w w') .ret { tmps := tmps, defers := ds } W := by
  subst hr
  refine post_marks (v := .int .i64 v) hM (fun W' hb' hk => ⟨results_box rfl tmps W' gr 28 _ (0, 0) .i64 hp (hk gr _ hg rfl) Tryd.underlying28, rfl, hb.trans hb'⟩) (below_size hb)
def CInv (w W0 : World) (g gr : Nat) (ys : List (Int × ByteArray)) (pre : List (Int × ByteArray)) (W : World) : Prop :=
  Below w.heap.size w W ∧ Kept [g] W0 W ∧ SetAt Value.string (pre.map (·.2)) g W ∧ ∀ rest, ys = pre ++ rest → namesOk [] (ys.map (·.2)) = namesOk (pre.map (·.2)) (rest.map (·.2))
theorem CInv.own (w W0 : World) (g gr : Nat) (ys : List (Int × ByteArray)) (hw : w.heap.size ≤ W0.heap.size) (hg : g < W0.heap.size) : OwnFrom W0.heap.size (CInv w W0 g gr ys) := by
  rintro pre W W' row ⟨h1, h2, h3, h4⟩ hgr hr
  exact ⟨below_kept h1 hgr hw hr, h2.grown hgr (fun r e => .inr (hr r e).1), h3.kept hgr (by intro e; have := (hr g e.symm).1; omega), h4⟩
theorem CInv.below {w W0 A B : World} {g gr : Nat} {ys pre : List (Int × ByteArray)} (h : CInv w W0 g gr ys pre A) (hb : Below A.heap.size A B) : CInv w W0 g gr ys pre B := ⟨below_step h.1 hb, h.2.1.below hb, h.2.2.1.below hb, h.2.2.2⟩
def CEnd (w W0 : World) (g gr : Nat) (ys : List (Int × ByteArray)) (W : World) : Prop :=
  Below w.heap.size w W ∧ Kept [g, gr] W0 W ∧ W.heap[gr]? = some (.cells #[.int .i64 1] 28 (0, 0)) ∧ namesOk [] (ys.map (·.2)) = false
theorem CEnd.own (w W0 : World) (g gr : Nat) (ys : List (Int × ByteArray)) (hw : w.heap.size ≤ W0.heap.size) : OwnFrom W0.heap.size (fun (_ : List (Int × ByteArray)) W => CEnd w W0 g gr ys W) := by
  rintro pre W W' row ⟨h1, h2, h3, h4⟩ hgr hr
  exact ⟨below_kept h1 hgr hw hr, h2.grown hgr (fun r e => .inr (hr r e).1), blk_kept h3 hgr (fun r e => (hr r e).2), h4⟩
theorem cell_step {w w1 : World} {p : Addr} {v : Value} (h : w.cell? p = some v) (hb : Below w.heap.size w w1) : w1.cell? p = some v := (hb.cell (World.block_lt_of_cell? w _ h)).trans h
theorem three_boxes (w : World) (o0 o1 o2 : Obj) : (((w.alloc o0).alloc o1).alloc o2).drew.heap[w.heap.size]? = some o0 ∧ (((w.alloc o0).alloc o1).alloc o2).drew.heap[w.heap.size + 1]? = some o1 ∧ (((w.alloc o0).alloc o1).alloc o2).drew.heap[w.heap.size + 1 + 1]? = some o2 := by
  refine ⟨blk_drew (blk_alloc (blk_alloc (blk_new _ _) _) _), ?_, ?_⟩
  · have := blk_drew (blk_alloc (blk_new (w.alloc o0) o1) o2)
    simpa using this
  · have := blk_drew (blk_new ((w.alloc o0).alloc o1) o2)
    simpa using this
theorem drawn_below {w w' : World} (h : Drawn0 w w') : Below w.heap.size w w' := by
  obtain ⟨n, rfl⟩ := h
  exact pw_below_drewN (Below.refl _ _) n
theorem marks_set {B : Nat} {ds : List Deferred} {w : World} (h : Marks B ds w) (a : Addr) (v : Value) : Marks B ds (w.setCell a v) := h.kept fun D _ hd => (KeepsOthers.setCell w a v).same D _ hd rfl
theorem pair_keys : KeyRun Tryd.prog 88 pairV := by
  have h : (Tryd.prog.info? 3).map (fun i => i.size) = some 1 := by kernel_rfl
  obtain ⟨i, hi, hs⟩ := Option.map_eq_some_iff.1 h
  exact KeyRun.pairs Tryd.underlying88 Tryd.underlying3 hi (by simp [Program.cellsOf, hi, hs])
theorem string_keys : KeyRun Tryd.prog 9 Value.string := KeyRun.strings Tryd.underlying9
set_option maxHeartbeats 16000000 in
set_option maxRecDepth 100000 in
theorem check_walk (D0 D1 D2 D3 D4 : Option Addr) (e0 e1 e2 e3 e4 : Nat) (x : S45) (w0 : World) (hr0 : Kd.C k87 w0 D0 x.f0.length x.f0) (hr1 : Kd.C k91 w0 D1 x.f1.length x.f1) (hr2 : Kd.C k95 w0 D2 x.f2.length x.f2) (hr3 : Kd.C k98 w0 D3 x.f3.length x.f3) (hr4 : Kd.C k101 w0 D4 x.f4.length x.f4) (hc0 : x.f0.length ≤ e0) (hc1 : x.f1.length ≤ e1) (hc2 : x.f2.length ≤ e2) (hc3 : x.f3.length ≤ e3) (hc4 : x.f4.length ≤ e4) (hV : VOk w0) (hN : NamesFit x) :
    Calls Tryd.prog 26 #[(.agg #[.slice D0 x.f0.length e0, .slice D1 x.f1.length e1, .slice D2 x.f2.length e2, .slice D3 x.f3.length e3, .slice D4 x.f4.length e4])] w0 fun e w' => e = .returned (.int .i64 (checkS x)) ∧ Below w0.heap.size w0 w' := by
  have hu := Tryd.underlying45
  have HR0 := Aside0.mk hr0
  have HR1 := Aside0.mk hr1
  have HR2 := Aside0.mk hr2
  have HR3 := Aside0.mk hr3
  have HR4 := Aside0.mk hr4
  have HC0 := Aside0.mk hc0
  have HC1 := Aside0.mk hc1
  have HC2 := Aside0.mk hc2
  have HC3 := Aside0.mk hc3
  have HC4 := Aside0.mk hc4
  have HV := Aside0.mk hV
  have HN := Aside0.mk hN
  clear hr0 hr1 hr2 hr3 hr4 hc0 hc1 hc2 hc3 hc4 hV hN
  refine calls_of_marks Tryd.func26 rfl ?_
  simp only [Tryd.ntmps26, List.size_toArray, List.length_cons, List.length_nil, Nat.reduceAdd, Nat.reduceSub, Array.replicate_succ, Array.replicate_zero, List.push_toArray, List.append_toArray, List.nil_append, List.cons_append]
  go_upto_block 0 with (first | ((with_reducible refine gate_dst (N := 1) rfl ?_); refine box_event ?hg (N := 1) ?hd (cs := #[.slice D0 x.f0.length e0, .slice D1 x.f1.length e1, .slice D2 x.f2.length e2, .slice D3 x.f3.length e3, .slice D4 x.f4.length e4]) (t := 45) ?hr ?_; (case hd => rfl); (case hg => rfl); (case hr => first | (go_simp; done) | (go_simp; rfl)); intro gs hgs w1 hbox hb; have HB := Aside0.mk hb; have BS := Aside0.mk hbox; have GS := Aside0.mk (show gs = w0.heap.size from hgs); clear hb hbox hgs) | ((with_reducible refine gate_dst (N := 2) rfl ?_); refine box_event ?hg (N := 2) ?hd (cs := #[.int .i64 0]) (t := 28) ?hr ?_; (case hd => rfl); (case hg => rfl); (case hr => first | (go_simp; done) | (go_simp; rfl)); intro gr hgr w2 hbox hb; have BR := Aside0.mk hbox; have GR := Aside0.mk (show gr = w1.heap.size from hgr); have HGR_ : w0.heap.size ≤ gr := (hgr ▸ HB.out.size); replace BS := Aside0.mk (blk_below BS.out hb); replace HB := Aside0.mk (below_step HB.out hb); clear hb hbox hgr))
  have HNe := Aside0.mk (show gs ≠ gr from blk_ne BS.out BR.out (by decide))
  have HGs := Aside0.mk (show w0.heap.size ≤ gs by rw [GS.out]; exact Nat.le_refl _)
  have HGr := Aside0.mk HGR_
  clear GS GR
  generalize w2 = Wz at *
  go_wp2
  refine wp_loop_ghost_k (fun k a W => ∃ u4 u6 u18 u19 u20 u21 u22 u23 u24 u25 u26 u27 u28 u29 u30 u31 u32 u33 u34 u35 u36 u37 : Value, ∃ (sort : Int) (ds : List Deferred), a = { tmps := #[(.agg #[.slice D0 x.f0.length e0, .slice D1 x.f1.length e1, .slice D2 x.f2.length e2, .slice D3 x.f3.length e3, .slice D4 x.f4.length e4]), .pointer (some ⟨gs, 0, none⟩), .pointer (some ⟨gr, 0, none⟩), .int .i64 sort, u4, undef, u6, undef, undef, undef, undef, undef, undef, undef, undef, undef, undef, undef, u18, u19, u20, u21, u22, u23, u24, u25, u26, u27, u28, u29, u30, u31, u32, u33, u34, u35, u36, u37, undef, undef, undef, undef, undef, undef, undef, undef, undef, undef, undef, undef, undef, undef, undef, undef, undef, undef, undef, undef, undef, undef, undef, undef, undef, undef, undef, undef, undef, undef, undef, undef, undef, undef, undef, undef, undef, undef, undef, undef, undef, undef, undef, undef, undef, undef, undef, undef, undef, undef, undef, undef, undef, undef, undef, undef, undef, undef, undef, undef, undef, undef, undef, undef, undef, undef, undef, undef, undef, undef, undef, undef, undef, undef, undef, undef, undef, undef, undef, undef, undef, undef, undef, undef, undef, undef, undef, undef, undef, undef, undef, undef, undef, undef, undef, undef, undef, undef], defers := ds } ∧ Aside0 (1 ≤ sort ∧ sort + k = 6) ∧ Aside0 (∀ s, 1 ≤ s → s < sort → namesOk [] ((namesOf x s).map (·.2)) = true) ∧ Aside0 (Below w0.heap.size w0 W) ∧ Aside0 (Marks w0.heap.size ds W) ∧ Aside0 (W.heap[gs]? = some (.cells #[.slice D0 x.f0.length e0, .slice D1 x.f1.length e1, .slice D2 x.f2.length e2, .slice D3 x.f3.length e3, .slice D4 x.f4.length e4] 45 (0, 0))) ∧ Aside0 (W.heap[gr]? = some (.cells #[.int .i64 0] 28 (0, 0)))) 5 ?_ ?_
  · exact ⟨undef, undef, undef, undef, undef, undef, undef, undef, undef, undef, undef, undef, undef, undef, undef, undef, undef, undef, undef, undef, undef, undef, 1, [], rfl, ⟨by omega, by omega⟩, ⟨fun s h1 h2 => by omega⟩, HB, ⟨Marks.nil _ _⟩, BS, BR⟩
  intro gk a W hinv
  obtain ⟨u4, u6, u18, u19, u20, u21, u22, u23, u24, u25, u26, u27, u28, u29, u30, u31, u32, u33, u34, u35, u36, u37, sort, ds, rfl, HS, HO, HB, HM, BS, BR⟩ := hinv
  intro J K hJ hK
  cases gk with
  | zero =>
    have d1 : decide (sort ≤ 5) = false := decide_eq_false (by have := HS.out; omega)
    have HNm := Aside0.mk (show namesOk [] ((namesOf x 1).map (·.2)) = true ∧ namesOk [] ((namesOf x 2).map (·.2)) = true ∧ namesOk [] ((namesOf x 3).map (·.2)) = true ∧ namesOk [] ((namesOf x 4).map (·.2)) = true ∧ namesOk [] ((namesOf x 5).map (·.2)) = true by
      have h := HO.out
      have := HS.out
      exact ⟨h 1 (by omega) (by omega), h 2 (by omega) (by omega), h 3 (by omega) (by omega), h 4 (by omega) (by omega), h 5 (by omega) (by omega)⟩)
    clear HO HS hJ
    generalize hds : ds = dz at *
    go_wp2_with (first | ((with_reducible refine gate_dst (N := 38) rfl ?_); refine mapS_event (enc := pairV) ?hg (N := 38) ?hd (t := 85) ?hop ?_; (case hg => rfl); (case hd => rfl); (case hop => rfl); intro gt hgt w3 hset hb; have ST := Aside0.mk hset; have HGT := Aside0.mk (show w0.heap.size ≤ gt from hgt ▸ HB.out.size); have HGTN := Aside0.mk (show gt ≠ gs ∧ gt ≠ gr from ⟨fun e => by have := blk_lt BS.out; omega, fun e => by have := blk_lt BR.out; omega⟩); replace BS := Aside0.mk (blk_below BS.out hb); replace BR := Aside0.mk (blk_below BR.out hb); replace HM := Aside0.mk (HM.out.below hb); replace HB := Aside0.mk (below_step HB.out hb); clear hset hb hgt; have zs0 : w3.cell? ⟨gs, 0, none⟩ = some (.slice D0 x.f0.length e0) := (blk_cell BS.out 0).trans rfl))
    have HL0 := Aside0.mk HR0.out.2.1
    go_loopg [42] x.f0.length (fun kq v42 wr => ∃ (i : Int) (met : List (Int × Int)), v42 = .int .i64 i ∧ Aside0 (0 ≤ i ∧ i + kq = x.f0.length ∧ slotsOk [] x.f0 = slotsOk met (x.f0.drop i.toNat)) ∧ Aside0 (Below w0.heap.size w0 wr) ∧ Aside0 (Marks w0.heap.size dz wr) ∧ Aside0 (wr.heap[gs]? = some (.cells #[.slice D0 x.f0.length e0, .slice D1 x.f1.length e1, .slice D2 x.f2.length e2, .slice D3 x.f3.length e3, .slice D4 x.f4.length e4] 45 (0, 0))) ∧ Aside0 (wr.heap[gr]? = some (.cells #[.int .i64 0] 28 (0, 0))) ∧ Aside0 (SetAt pairV met gt wr))
    case atStart => exact ⟨0, [], rfl, ⟨by omega, by omega, rfl⟩, HB, HM, BS, BR, ST⟩
    case round =>
      clear HB HM BS BR ST zs0
      obtain ⟨i, met, rfl, HI, HB, HM, BS, BR, HT⟩ := hrel
      cases gk with
      | zero =>
        have d1 : decide (i < (x.f0.length : Int)) = false := decide_eq_false (by have := HI.out.2.1; omega)
        have HSl := Aside0.mk (show slotsOk [] x.f0 = true by rw [HI.out.2.2, List.drop_of_length_le (by have := HI.out.2.1; omega)]; rfl)
        have zs0 : wr.cell? ⟨gs, 0, none⟩ = some (.slice D0 x.f0.length e0) := (blk_cell BS.out 0).trans rfl
        have zs2 : wr.cell? ⟨gs, 2, none⟩ = some (.slice D2 x.f2.length e2) := (blk_cell BS.out 2).trans rfl
        have zs3 : wr.cell? ⟨gs, 3, none⟩ = some (.slice D3 x.f3.length e3) := (blk_cell BS.out 3).trans rfl
        have HKeep := Aside0.mk (fun (W' : World) (hb : Below wr.heap.size wr W') => (⟨hb, cell_step zs0 hb, cell_step zs2 hb, cell_step zs3 hb⟩ : (Below wr.heap.size wr W' ∧ W'.cell? ⟨gs, 0, none⟩ = some (.slice D0 x.f0.length e0) ∧ W'.cell? ⟨gs, 2, none⟩ = some (.slice D2 x.f2.length e2) ∧ W'.cell? ⟨gs, 3, none⟩ = some (.slice D3 x.f3.length e3))))
        go_upto_region 20 with (fail)
        go_cut [11, 12, 13] from 69 to 77 (fun v11 v12 v13 wd => ∃ g1 g2 g3 : Nat, v11 = .pointer (some ⟨g1, 0, none⟩) ∧ v12 = .pointer (some ⟨g2, 0, none⟩) ∧ v13 = .pointer (some ⟨g3, 0, none⟩) ∧ Aside0 (Below wr.heap.size wr wd) ∧ Aside0 (wd.heap[g1]? = some (.cells #[.int .i64 x.f0.length] 3 (0, 0))) ∧ Aside0 (wd.heap[g2]? = some (.cells #[.int .i64 x.f2.length] 3 (0, 0))) ∧ Aside0 (wd.heap[g3]? = some (.cells #[.int .i64 x.f3.length] 3 (0, 0))))
        case first =>
          go_region_held3 (fun W' => (Below wr.heap.size wr W' ∧ W'.cell? ⟨gs, 0, none⟩ = some (.slice D0 x.f0.length e0) ∧ W'.cell? ⟨gs, 2, none⟩ = some (.slice D2 x.f2.length e2) ∧ W'.cell? ⟨gs, 3, none⟩ = some (.slice D3 x.f3.length e3))) ((refine HKeep.out _ ?_; go_split_ands; (repeat (first | assumption | exact Below.refl _ _ | apply below_drew | apply below_alloc | apply pw_below_drewN | apply below_drew1 | (refine below_set ?_ (by first | exact Nat.le_refl _ | (simp; done) | (simp; omega))))))) (fail)
          all_goals
            go_wp2
            go_meet
            case rel => exact ⟨_, _, _, rfl, rfl, rfl, ⟨by go_split_ands; assumption⟩, ⟨by first | exact (three_boxes wr _ _ _).1 | exact (three_boxes wr _ _ _).2.1 | exact (three_boxes wr _ _ _).2.2⟩, ⟨by first | exact (three_boxes wr _ _ _).1 | exact (three_boxes wr _ _ _).2.1 | exact (three_boxes wr _ _ _).2.2⟩, ⟨by first | exact (three_boxes wr _ _ _).1 | exact (three_boxes wr _ _ _).2.1 | exact (three_boxes wr _ _ _).2.2⟩⟩
        case rest =>
          obtain ⟨g1, g2, g3, rfl, rfl, rfl, HBc, B1, B2, B3⟩ := hcut
          replace BS := Aside0.mk (blk_below BS.out HBc.out)
          replace BR := Aside0.mk (blk_below BR.out HBc.out)
          replace HM := Aside0.mk (HM.out.below HBc.out)
          replace HB := Aside0.mk (below_step HB.out HBc.out)
          clear HBc HKeep HI HT zs0 zs2 zs3
          have zr : wc.cell? ⟨gr, 0, none⟩ = some (.int .i64 0) := (blk_cell BR.out 0).trans rfl
          have zf := blk_frozen BR.out 0
          have z1 : wc.cell? ⟨g1, 0, none⟩ = some (.int .i64 x.f0.length) := (blk_cell B1.out 0).trans rfl
          have z2 : wc.cell? ⟨g2, 0, none⟩ = some (.int .i64 x.f2.length) := (blk_cell B2.out 0).trans rfl
          have z3 : wc.cell? ⟨g3, 0, none⟩ = some (.int .i64 x.f3.length) := (blk_cell B3.out 0).trans rfl
          have zs1 : wc.cell? ⟨gs, 1, none⟩ = some (.slice D1 x.f1.length e1) := (blk_cell BS.out 1).trans rfl
          have zs2 : wc.cell? ⟨gs, 2, none⟩ = some (.slice D2 x.f2.length e2) := (blk_cell BS.out 2).trans rfl
          have zs3 : wc.cell? ⟨gs, 3, none⟩ = some (.slice D3 x.f3.length e3) := (blk_cell BS.out 3).trans rfl
          have zs4 : wc.cell? ⟨gs, 4, none⟩ = some (.slice D4 x.f4.length e4) := (blk_cell BS.out 4).trans rfl
          have HCk := Aside0.mk (show checkS x = if x.f0.length = 0 ∨ x.f1.length = 0 then 1 else if (x.f1.any (roomBad x.f0.length) || x.f2.any (personBad x.f0.length) || x.f3.any groupBad || x.f4.any (lessonBad x.f2.length x.f3.length)) = true then 1 else if 50 < x.f0.length ∨ 32 < x.f1.length ∨ 64 < x.f2.length ∨ 64 < x.f3.length ∨ 64 < x.f4.length then 2 else 0 by unfold checkS; rw [if_neg (fun h => h HNm.out), if_neg (by rw [HSl.out]; simp)])
          by_cases h0 : x.f0.length = 0
          · have W0 := Aside0.mk h0
            have c0 : decide ((x.f0.length : Int) = 0) = true := decide_eq_true (by omega)
            have c0' : decide (x.f0.length = 0) = true := decide_eq_true (by omega)
            have c0'' : ((x.f0.length : Int) == 0) = true := by simpa using c0'
            clear h0
            go_wp2
            exact check_ret (by rw [HCk.out]; rw [if_pos (Or.inl W0.out)]) rfl (blk_put BR.out 0 _ rfl) (marks_set HM.out _ _) (below_set HB.out HGr.out)
          have W0 := Aside0.mk h0
          have c0 : decide ((x.f0.length : Int) = 0) = false := decide_eq_false (by omega)
          have c0' : decide (x.f0.length = 0) = false := decide_eq_false (by omega)
          have c0'' : ((x.f0.length : Int) == 0) = false := by simpa using c0'
          clear h0
          by_cases h0 : x.f1.length = 0
          · have W1 := Aside0.mk h0
            have c1 : decide ((x.f1.length : Int) = 0) = true := decide_eq_true (by omega)
            have c1' : decide (x.f1.length = 0) = true := decide_eq_true (by omega)
            have c1'' : ((x.f1.length : Int) == 0) = true := by simpa using c1'
            clear h0
            go_wp2
            exact check_ret (by rw [HCk.out]; rw [if_pos (Or.inr W1.out)]) rfl (blk_put BR.out 0 _ rfl) (marks_set HM.out _ _) (below_set HB.out HGr.out)
          have W1 := Aside0.mk h0
          have c1 : decide ((x.f1.length : Int) = 0) = false := decide_eq_false (by omega)
          have c1' : decide (x.f1.length = 0) = false := decide_eq_false (by omega)
          have c1'' : ((x.f1.length : Int) == 0) = false := by simpa using c1'
          clear h0
          have WA := Aside0.mk (show ¬ (x.f0.length = 0 ∨ x.f1.length = 0) from fun h => h.elim W0.out W1.out)
          have WC := Aside0.mk (show checkS x = if (x.f1.any (roomBad x.f0.length) || x.f2.any (personBad x.f0.length) || x.f3.any groupBad || x.f4.any (lessonBad x.f2.length x.f3.length)) = true then 1 else if 50 < x.f0.length ∨ 32 < x.f1.length ∨ 64 < x.f2.length ∨ 64 < x.f3.length ∨ 64 < x.f4.length then 2 else 0 by rw [HCk.out, if_neg WA.out])
          cases hR : x.f1.any (roomBad x.f0.length) with
          | true =>
            replace WC := Aside0.mk (show checkS x = 1 by rw [WC.out]; simp [hR])
            go_wp2_with (first | (go_at_call 53; refine (any_Room.calls 48 #[.pointer (some ⟨g1, 0, none⟩)] (roomBad x.f0.length) (fun args w => enters_ Tryd.func48 (by kernel_rfl) rfl args w) D1 e1 x.f1 _ (Kd.C_below HR1.out HB.out) HC1.out (roomBad_pred g1 _ _ B1.out)).mono ?_; rintro e wc ⟨rfl, hb⟩; clear zr zf z1 z2 z3 zs1 zs2 zs3 zs4; replace BS := Aside0.mk (blk_below BS.out hb); replace BR := Aside0.mk (blk_below BR.out hb); replace B1 := Aside0.mk (blk_below B1.out hb); replace B2 := Aside0.mk (blk_below B2.out hb); replace B3 := Aside0.mk (blk_below B3.out hb); replace HM := Aside0.mk (HM.out.below hb); replace HB := Aside0.mk (below_step HB.out hb); clear hb; have zr : wc.cell? ⟨gr, 0, none⟩ = some (.int .i64 0) := (blk_cell BR.out 0).trans rfl; have zf := blk_frozen BR.out 0; have z1 : wc.cell? ⟨g1, 0, none⟩ = some (.int .i64 x.f0.length) := (blk_cell B1.out 0).trans rfl; have z2 : wc.cell? ⟨g2, 0, none⟩ = some (.int .i64 x.f2.length) := (blk_cell B2.out 0).trans rfl; have z3 : wc.cell? ⟨g3, 0, none⟩ = some (.int .i64 x.f3.length) := (blk_cell B3.out 0).trans rfl; have zs1 : wc.cell? ⟨gs, 1, none⟩ = some (.slice D1 x.f1.length e1) := (blk_cell BS.out 1).trans rfl; have zs2 : wc.cell? ⟨gs, 2, none⟩ = some (.slice D2 x.f2.length e2) := (blk_cell BS.out 2).trans rfl; have zs3 : wc.cell? ⟨gs, 3, none⟩ = some (.slice D3 x.f3.length e3) := (blk_cell BS.out 3).trans rfl; have zs4 : wc.cell? ⟨gs, 4, none⟩ = some (.slice D4 x.f4.length e4) := (blk_cell BS.out 4).trans rfl) | (go_at_call 54; refine (any_Person.calls 50 #[.pointer (some ⟨g1, 0, none⟩)] (personBad x.f0.length) (fun args w => enters_ Tryd.func50 (by kernel_rfl) rfl args w) D2 e2 x.f2 _ (Kd.C_below HR2.out HB.out) HC2.out (personBad_pred g1 _ _ B1.out)).mono ?_; rintro e wc ⟨rfl, hb⟩; clear zr zf z1 z2 z3 zs1 zs2 zs3 zs4; replace BS := Aside0.mk (blk_below BS.out hb); replace BR := Aside0.mk (blk_below BR.out hb); replace B1 := Aside0.mk (blk_below B1.out hb); replace B2 := Aside0.mk (blk_below B2.out hb); replace B3 := Aside0.mk (blk_below B3.out hb); replace HM := Aside0.mk (HM.out.below hb); replace HB := Aside0.mk (below_step HB.out hb); clear hb; have zr : wc.cell? ⟨gr, 0, none⟩ = some (.int .i64 0) := (blk_cell BR.out 0).trans rfl; have zf := blk_frozen BR.out 0; have z1 : wc.cell? ⟨g1, 0, none⟩ = some (.int .i64 x.f0.length) := (blk_cell B1.out 0).trans rfl; have z2 : wc.cell? ⟨g2, 0, none⟩ = some (.int .i64 x.f2.length) := (blk_cell B2.out 0).trans rfl; have z3 : wc.cell? ⟨g3, 0, none⟩ = some (.int .i64 x.f3.length) := (blk_cell B3.out 0).trans rfl; have zs1 : wc.cell? ⟨gs, 1, none⟩ = some (.slice D1 x.f1.length e1) := (blk_cell BS.out 1).trans rfl; have zs2 : wc.cell? ⟨gs, 2, none⟩ = some (.slice D2 x.f2.length e2) := (blk_cell BS.out 2).trans rfl; have zs3 : wc.cell? ⟨gs, 3, none⟩ = some (.slice D3 x.f3.length e3) := (blk_cell BS.out 3).trans rfl; have zs4 : wc.cell? ⟨gs, 4, none⟩ = some (.slice D4 x.f4.length e4) := (blk_cell BS.out 4).trans rfl) | (go_at_call 55; refine (any_Group.calls 51 #[] (groupBad) (fun args w => enters_ Tryd.func51 (by kernel_rfl) rfl args w) D3 e3 x.f3 _ (Kd.C_below HR3.out HB.out) HC3.out (groupBad_pred _)).mono ?_; rintro e wc ⟨rfl, hb⟩; clear zr zf z1 z2 z3 zs1 zs2 zs3 zs4; replace BS := Aside0.mk (blk_below BS.out hb); replace BR := Aside0.mk (blk_below BR.out hb); replace B1 := Aside0.mk (blk_below B1.out hb); replace B2 := Aside0.mk (blk_below B2.out hb); replace B3 := Aside0.mk (blk_below B3.out hb); replace HM := Aside0.mk (HM.out.below hb); replace HB := Aside0.mk (below_step HB.out hb); clear hb; have zr : wc.cell? ⟨gr, 0, none⟩ = some (.int .i64 0) := (blk_cell BR.out 0).trans rfl; have zf := blk_frozen BR.out 0; have z1 : wc.cell? ⟨g1, 0, none⟩ = some (.int .i64 x.f0.length) := (blk_cell B1.out 0).trans rfl; have z2 : wc.cell? ⟨g2, 0, none⟩ = some (.int .i64 x.f2.length) := (blk_cell B2.out 0).trans rfl; have z3 : wc.cell? ⟨g3, 0, none⟩ = some (.int .i64 x.f3.length) := (blk_cell B3.out 0).trans rfl; have zs1 : wc.cell? ⟨gs, 1, none⟩ = some (.slice D1 x.f1.length e1) := (blk_cell BS.out 1).trans rfl; have zs2 : wc.cell? ⟨gs, 2, none⟩ = some (.slice D2 x.f2.length e2) := (blk_cell BS.out 2).trans rfl; have zs3 : wc.cell? ⟨gs, 3, none⟩ = some (.slice D3 x.f3.length e3) := (blk_cell BS.out 3).trans rfl; have zs4 : wc.cell? ⟨gs, 4, none⟩ = some (.slice D4 x.f4.length e4) := (blk_cell BS.out 4).trans rfl) | (go_at_call 56; refine (any_Lesson.calls 52 #[.pointer (some ⟨g2, 0, none⟩), .pointer (some ⟨g3, 0, none⟩)] (lessonBad x.f2.length x.f3.length) (fun args w => enters_ Tryd.func52 (by kernel_rfl) rfl args w) D4 e4 x.f4 _ (Kd.C_below HR4.out HB.out) HC4.out (lessonBad_pred g2 g3 _ _ _ B2.out B3.out)).mono ?_; rintro e wc ⟨rfl, hb⟩; clear zr zf z1 z2 z3 zs1 zs2 zs3 zs4; replace BS := Aside0.mk (blk_below BS.out hb); replace BR := Aside0.mk (blk_below BR.out hb); replace B1 := Aside0.mk (blk_below B1.out hb); replace B2 := Aside0.mk (blk_below B2.out hb); replace B3 := Aside0.mk (blk_below B3.out hb); replace HM := Aside0.mk (HM.out.below hb); replace HB := Aside0.mk (below_step HB.out hb); clear hb; have zr : wc.cell? ⟨gr, 0, none⟩ = some (.int .i64 0) := (blk_cell BR.out 0).trans rfl; have zf := blk_frozen BR.out 0; have z1 : wc.cell? ⟨g1, 0, none⟩ = some (.int .i64 x.f0.length) := (blk_cell B1.out 0).trans rfl; have z2 : wc.cell? ⟨g2, 0, none⟩ = some (.int .i64 x.f2.length) := (blk_cell B2.out 0).trans rfl; have z3 : wc.cell? ⟨g3, 0, none⟩ = some (.int .i64 x.f3.length) := (blk_cell B3.out 0).trans rfl; have zs1 : wc.cell? ⟨gs, 1, none⟩ = some (.slice D1 x.f1.length e1) := (blk_cell BS.out 1).trans rfl; have zs2 : wc.cell? ⟨gs, 2, none⟩ = some (.slice D2 x.f2.length e2) := (blk_cell BS.out 2).trans rfl; have zs3 : wc.cell? ⟨gs, 3, none⟩ = some (.slice D3 x.f3.length e3) := (blk_cell BS.out 3).trans rfl; have zs4 : wc.cell? ⟨gs, 4, none⟩ = some (.slice D4 x.f4.length e4) := (blk_cell BS.out 4).trans rfl))
            exact check_ret WC.out.symm rfl (blk_put BR.out 0 _ rfl) (marks_set HM.out _ _) (below_set HB.out HGr.out)
          | false =>
            cases hP : x.f2.any (personBad x.f0.length) with
            | true =>
              replace WC := Aside0.mk (show checkS x = 1 by rw [WC.out]; simp [hR, hP])
              go_wp2_with (first | (go_at_call 53; refine (any_Room.calls 48 #[.pointer (some ⟨g1, 0, none⟩)] (roomBad x.f0.length) (fun args w => enters_ Tryd.func48 (by kernel_rfl) rfl args w) D1 e1 x.f1 _ (Kd.C_below HR1.out HB.out) HC1.out (roomBad_pred g1 _ _ B1.out)).mono ?_; rintro e wc ⟨rfl, hb⟩; clear zr zf z1 z2 z3 zs1 zs2 zs3 zs4; replace BS := Aside0.mk (blk_below BS.out hb); replace BR := Aside0.mk (blk_below BR.out hb); replace B1 := Aside0.mk (blk_below B1.out hb); replace B2 := Aside0.mk (blk_below B2.out hb); replace B3 := Aside0.mk (blk_below B3.out hb); replace HM := Aside0.mk (HM.out.below hb); replace HB := Aside0.mk (below_step HB.out hb); clear hb; have zr : wc.cell? ⟨gr, 0, none⟩ = some (.int .i64 0) := (blk_cell BR.out 0).trans rfl; have zf := blk_frozen BR.out 0; have z1 : wc.cell? ⟨g1, 0, none⟩ = some (.int .i64 x.f0.length) := (blk_cell B1.out 0).trans rfl; have z2 : wc.cell? ⟨g2, 0, none⟩ = some (.int .i64 x.f2.length) := (blk_cell B2.out 0).trans rfl; have z3 : wc.cell? ⟨g3, 0, none⟩ = some (.int .i64 x.f3.length) := (blk_cell B3.out 0).trans rfl; have zs1 : wc.cell? ⟨gs, 1, none⟩ = some (.slice D1 x.f1.length e1) := (blk_cell BS.out 1).trans rfl; have zs2 : wc.cell? ⟨gs, 2, none⟩ = some (.slice D2 x.f2.length e2) := (blk_cell BS.out 2).trans rfl; have zs3 : wc.cell? ⟨gs, 3, none⟩ = some (.slice D3 x.f3.length e3) := (blk_cell BS.out 3).trans rfl; have zs4 : wc.cell? ⟨gs, 4, none⟩ = some (.slice D4 x.f4.length e4) := (blk_cell BS.out 4).trans rfl) | (go_at_call 54; refine (any_Person.calls 50 #[.pointer (some ⟨g1, 0, none⟩)] (personBad x.f0.length) (fun args w => enters_ Tryd.func50 (by kernel_rfl) rfl args w) D2 e2 x.f2 _ (Kd.C_below HR2.out HB.out) HC2.out (personBad_pred g1 _ _ B1.out)).mono ?_; rintro e wc ⟨rfl, hb⟩; clear zr zf z1 z2 z3 zs1 zs2 zs3 zs4; replace BS := Aside0.mk (blk_below BS.out hb); replace BR := Aside0.mk (blk_below BR.out hb); replace B1 := Aside0.mk (blk_below B1.out hb); replace B2 := Aside0.mk (blk_below B2.out hb); replace B3 := Aside0.mk (blk_below B3.out hb); replace HM := Aside0.mk (HM.out.below hb); replace HB := Aside0.mk (below_step HB.out hb); clear hb; have zr : wc.cell? ⟨gr, 0, none⟩ = some (.int .i64 0) := (blk_cell BR.out 0).trans rfl; have zf := blk_frozen BR.out 0; have z1 : wc.cell? ⟨g1, 0, none⟩ = some (.int .i64 x.f0.length) := (blk_cell B1.out 0).trans rfl; have z2 : wc.cell? ⟨g2, 0, none⟩ = some (.int .i64 x.f2.length) := (blk_cell B2.out 0).trans rfl; have z3 : wc.cell? ⟨g3, 0, none⟩ = some (.int .i64 x.f3.length) := (blk_cell B3.out 0).trans rfl; have zs1 : wc.cell? ⟨gs, 1, none⟩ = some (.slice D1 x.f1.length e1) := (blk_cell BS.out 1).trans rfl; have zs2 : wc.cell? ⟨gs, 2, none⟩ = some (.slice D2 x.f2.length e2) := (blk_cell BS.out 2).trans rfl; have zs3 : wc.cell? ⟨gs, 3, none⟩ = some (.slice D3 x.f3.length e3) := (blk_cell BS.out 3).trans rfl; have zs4 : wc.cell? ⟨gs, 4, none⟩ = some (.slice D4 x.f4.length e4) := (blk_cell BS.out 4).trans rfl) | (go_at_call 55; refine (any_Group.calls 51 #[] (groupBad) (fun args w => enters_ Tryd.func51 (by kernel_rfl) rfl args w) D3 e3 x.f3 _ (Kd.C_below HR3.out HB.out) HC3.out (groupBad_pred _)).mono ?_; rintro e wc ⟨rfl, hb⟩; clear zr zf z1 z2 z3 zs1 zs2 zs3 zs4; replace BS := Aside0.mk (blk_below BS.out hb); replace BR := Aside0.mk (blk_below BR.out hb); replace B1 := Aside0.mk (blk_below B1.out hb); replace B2 := Aside0.mk (blk_below B2.out hb); replace B3 := Aside0.mk (blk_below B3.out hb); replace HM := Aside0.mk (HM.out.below hb); replace HB := Aside0.mk (below_step HB.out hb); clear hb; have zr : wc.cell? ⟨gr, 0, none⟩ = some (.int .i64 0) := (blk_cell BR.out 0).trans rfl; have zf := blk_frozen BR.out 0; have z1 : wc.cell? ⟨g1, 0, none⟩ = some (.int .i64 x.f0.length) := (blk_cell B1.out 0).trans rfl; have z2 : wc.cell? ⟨g2, 0, none⟩ = some (.int .i64 x.f2.length) := (blk_cell B2.out 0).trans rfl; have z3 : wc.cell? ⟨g3, 0, none⟩ = some (.int .i64 x.f3.length) := (blk_cell B3.out 0).trans rfl; have zs1 : wc.cell? ⟨gs, 1, none⟩ = some (.slice D1 x.f1.length e1) := (blk_cell BS.out 1).trans rfl; have zs2 : wc.cell? ⟨gs, 2, none⟩ = some (.slice D2 x.f2.length e2) := (blk_cell BS.out 2).trans rfl; have zs3 : wc.cell? ⟨gs, 3, none⟩ = some (.slice D3 x.f3.length e3) := (blk_cell BS.out 3).trans rfl; have zs4 : wc.cell? ⟨gs, 4, none⟩ = some (.slice D4 x.f4.length e4) := (blk_cell BS.out 4).trans rfl) | (go_at_call 56; refine (any_Lesson.calls 52 #[.pointer (some ⟨g2, 0, none⟩), .pointer (some ⟨g3, 0, none⟩)] (lessonBad x.f2.length x.f3.length) (fun args w => enters_ Tryd.func52 (by kernel_rfl) rfl args w) D4 e4 x.f4 _ (Kd.C_below HR4.out HB.out) HC4.out (lessonBad_pred g2 g3 _ _ _ B2.out B3.out)).mono ?_; rintro e wc ⟨rfl, hb⟩; clear zr zf z1 z2 z3 zs1 zs2 zs3 zs4; replace BS := Aside0.mk (blk_below BS.out hb); replace BR := Aside0.mk (blk_below BR.out hb); replace B1 := Aside0.mk (blk_below B1.out hb); replace B2 := Aside0.mk (blk_below B2.out hb); replace B3 := Aside0.mk (blk_below B3.out hb); replace HM := Aside0.mk (HM.out.below hb); replace HB := Aside0.mk (below_step HB.out hb); clear hb; have zr : wc.cell? ⟨gr, 0, none⟩ = some (.int .i64 0) := (blk_cell BR.out 0).trans rfl; have zf := blk_frozen BR.out 0; have z1 : wc.cell? ⟨g1, 0, none⟩ = some (.int .i64 x.f0.length) := (blk_cell B1.out 0).trans rfl; have z2 : wc.cell? ⟨g2, 0, none⟩ = some (.int .i64 x.f2.length) := (blk_cell B2.out 0).trans rfl; have z3 : wc.cell? ⟨g3, 0, none⟩ = some (.int .i64 x.f3.length) := (blk_cell B3.out 0).trans rfl; have zs1 : wc.cell? ⟨gs, 1, none⟩ = some (.slice D1 x.f1.length e1) := (blk_cell BS.out 1).trans rfl; have zs2 : wc.cell? ⟨gs, 2, none⟩ = some (.slice D2 x.f2.length e2) := (blk_cell BS.out 2).trans rfl; have zs3 : wc.cell? ⟨gs, 3, none⟩ = some (.slice D3 x.f3.length e3) := (blk_cell BS.out 3).trans rfl; have zs4 : wc.cell? ⟨gs, 4, none⟩ = some (.slice D4 x.f4.length e4) := (blk_cell BS.out 4).trans rfl))
              exact check_ret WC.out.symm rfl (blk_put BR.out 0 _ rfl) (marks_set HM.out _ _) (below_set HB.out HGr.out)
            | false =>
              cases hG : x.f3.any groupBad with
              | true =>
                replace WC := Aside0.mk (show checkS x = 1 by rw [WC.out]; simp [hR, hP, hG])
                go_wp2_with (first | (go_at_call 53; refine (any_Room.calls 48 #[.pointer (some ⟨g1, 0, none⟩)] (roomBad x.f0.length) (fun args w => enters_ Tryd.func48 (by kernel_rfl) rfl args w) D1 e1 x.f1 _ (Kd.C_below HR1.out HB.out) HC1.out (roomBad_pred g1 _ _ B1.out)).mono ?_; rintro e wc ⟨rfl, hb⟩; clear zr zf z1 z2 z3 zs1 zs2 zs3 zs4; replace BS := Aside0.mk (blk_below BS.out hb); replace BR := Aside0.mk (blk_below BR.out hb); replace B1 := Aside0.mk (blk_below B1.out hb); replace B2 := Aside0.mk (blk_below B2.out hb); replace B3 := Aside0.mk (blk_below B3.out hb); replace HM := Aside0.mk (HM.out.below hb); replace HB := Aside0.mk (below_step HB.out hb); clear hb; have zr : wc.cell? ⟨gr, 0, none⟩ = some (.int .i64 0) := (blk_cell BR.out 0).trans rfl; have zf := blk_frozen BR.out 0; have z1 : wc.cell? ⟨g1, 0, none⟩ = some (.int .i64 x.f0.length) := (blk_cell B1.out 0).trans rfl; have z2 : wc.cell? ⟨g2, 0, none⟩ = some (.int .i64 x.f2.length) := (blk_cell B2.out 0).trans rfl; have z3 : wc.cell? ⟨g3, 0, none⟩ = some (.int .i64 x.f3.length) := (blk_cell B3.out 0).trans rfl; have zs1 : wc.cell? ⟨gs, 1, none⟩ = some (.slice D1 x.f1.length e1) := (blk_cell BS.out 1).trans rfl; have zs2 : wc.cell? ⟨gs, 2, none⟩ = some (.slice D2 x.f2.length e2) := (blk_cell BS.out 2).trans rfl; have zs3 : wc.cell? ⟨gs, 3, none⟩ = some (.slice D3 x.f3.length e3) := (blk_cell BS.out 3).trans rfl; have zs4 : wc.cell? ⟨gs, 4, none⟩ = some (.slice D4 x.f4.length e4) := (blk_cell BS.out 4).trans rfl) | (go_at_call 54; refine (any_Person.calls 50 #[.pointer (some ⟨g1, 0, none⟩)] (personBad x.f0.length) (fun args w => enters_ Tryd.func50 (by kernel_rfl) rfl args w) D2 e2 x.f2 _ (Kd.C_below HR2.out HB.out) HC2.out (personBad_pred g1 _ _ B1.out)).mono ?_; rintro e wc ⟨rfl, hb⟩; clear zr zf z1 z2 z3 zs1 zs2 zs3 zs4; replace BS := Aside0.mk (blk_below BS.out hb); replace BR := Aside0.mk (blk_below BR.out hb); replace B1 := Aside0.mk (blk_below B1.out hb); replace B2 := Aside0.mk (blk_below B2.out hb); replace B3 := Aside0.mk (blk_below B3.out hb); replace HM := Aside0.mk (HM.out.below hb); replace HB := Aside0.mk (below_step HB.out hb); clear hb; have zr : wc.cell? ⟨gr, 0, none⟩ = some (.int .i64 0) := (blk_cell BR.out 0).trans rfl; have zf := blk_frozen BR.out 0; have z1 : wc.cell? ⟨g1, 0, none⟩ = some (.int .i64 x.f0.length) := (blk_cell B1.out 0).trans rfl; have z2 : wc.cell? ⟨g2, 0, none⟩ = some (.int .i64 x.f2.length) := (blk_cell B2.out 0).trans rfl; have z3 : wc.cell? ⟨g3, 0, none⟩ = some (.int .i64 x.f3.length) := (blk_cell B3.out 0).trans rfl; have zs1 : wc.cell? ⟨gs, 1, none⟩ = some (.slice D1 x.f1.length e1) := (blk_cell BS.out 1).trans rfl; have zs2 : wc.cell? ⟨gs, 2, none⟩ = some (.slice D2 x.f2.length e2) := (blk_cell BS.out 2).trans rfl; have zs3 : wc.cell? ⟨gs, 3, none⟩ = some (.slice D3 x.f3.length e3) := (blk_cell BS.out 3).trans rfl; have zs4 : wc.cell? ⟨gs, 4, none⟩ = some (.slice D4 x.f4.length e4) := (blk_cell BS.out 4).trans rfl) | (go_at_call 55; refine (any_Group.calls 51 #[] (groupBad) (fun args w => enters_ Tryd.func51 (by kernel_rfl) rfl args w) D3 e3 x.f3 _ (Kd.C_below HR3.out HB.out) HC3.out (groupBad_pred _)).mono ?_; rintro e wc ⟨rfl, hb⟩; clear zr zf z1 z2 z3 zs1 zs2 zs3 zs4; replace BS := Aside0.mk (blk_below BS.out hb); replace BR := Aside0.mk (blk_below BR.out hb); replace B1 := Aside0.mk (blk_below B1.out hb); replace B2 := Aside0.mk (blk_below B2.out hb); replace B3 := Aside0.mk (blk_below B3.out hb); replace HM := Aside0.mk (HM.out.below hb); replace HB := Aside0.mk (below_step HB.out hb); clear hb; have zr : wc.cell? ⟨gr, 0, none⟩ = some (.int .i64 0) := (blk_cell BR.out 0).trans rfl; have zf := blk_frozen BR.out 0; have z1 : wc.cell? ⟨g1, 0, none⟩ = some (.int .i64 x.f0.length) := (blk_cell B1.out 0).trans rfl; have z2 : wc.cell? ⟨g2, 0, none⟩ = some (.int .i64 x.f2.length) := (blk_cell B2.out 0).trans rfl; have z3 : wc.cell? ⟨g3, 0, none⟩ = some (.int .i64 x.f3.length) := (blk_cell B3.out 0).trans rfl; have zs1 : wc.cell? ⟨gs, 1, none⟩ = some (.slice D1 x.f1.length e1) := (blk_cell BS.out 1).trans rfl; have zs2 : wc.cell? ⟨gs, 2, none⟩ = some (.slice D2 x.f2.length e2) := (blk_cell BS.out 2).trans rfl; have zs3 : wc.cell? ⟨gs, 3, none⟩ = some (.slice D3 x.f3.length e3) := (blk_cell BS.out 3).trans rfl; have zs4 : wc.cell? ⟨gs, 4, none⟩ = some (.slice D4 x.f4.length e4) := (blk_cell BS.out 4).trans rfl) | (go_at_call 56; refine (any_Lesson.calls 52 #[.pointer (some ⟨g2, 0, none⟩), .pointer (some ⟨g3, 0, none⟩)] (lessonBad x.f2.length x.f3.length) (fun args w => enters_ Tryd.func52 (by kernel_rfl) rfl args w) D4 e4 x.f4 _ (Kd.C_below HR4.out HB.out) HC4.out (lessonBad_pred g2 g3 _ _ _ B2.out B3.out)).mono ?_; rintro e wc ⟨rfl, hb⟩; clear zr zf z1 z2 z3 zs1 zs2 zs3 zs4; replace BS := Aside0.mk (blk_below BS.out hb); replace BR := Aside0.mk (blk_below BR.out hb); replace B1 := Aside0.mk (blk_below B1.out hb); replace B2 := Aside0.mk (blk_below B2.out hb); replace B3 := Aside0.mk (blk_below B3.out hb); replace HM := Aside0.mk (HM.out.below hb); replace HB := Aside0.mk (below_step HB.out hb); clear hb; have zr : wc.cell? ⟨gr, 0, none⟩ = some (.int .i64 0) := (blk_cell BR.out 0).trans rfl; have zf := blk_frozen BR.out 0; have z1 : wc.cell? ⟨g1, 0, none⟩ = some (.int .i64 x.f0.length) := (blk_cell B1.out 0).trans rfl; have z2 : wc.cell? ⟨g2, 0, none⟩ = some (.int .i64 x.f2.length) := (blk_cell B2.out 0).trans rfl; have z3 : wc.cell? ⟨g3, 0, none⟩ = some (.int .i64 x.f3.length) := (blk_cell B3.out 0).trans rfl; have zs1 : wc.cell? ⟨gs, 1, none⟩ = some (.slice D1 x.f1.length e1) := (blk_cell BS.out 1).trans rfl; have zs2 : wc.cell? ⟨gs, 2, none⟩ = some (.slice D2 x.f2.length e2) := (blk_cell BS.out 2).trans rfl; have zs3 : wc.cell? ⟨gs, 3, none⟩ = some (.slice D3 x.f3.length e3) := (blk_cell BS.out 3).trans rfl; have zs4 : wc.cell? ⟨gs, 4, none⟩ = some (.slice D4 x.f4.length e4) := (blk_cell BS.out 4).trans rfl))
                exact check_ret WC.out.symm rfl (blk_put BR.out 0 _ rfl) (marks_set HM.out _ _) (below_set HB.out HGr.out)
              | false =>
                cases hL : x.f4.any (lessonBad x.f2.length x.f3.length) with
                | true =>
                  replace WC := Aside0.mk (show checkS x = 1 by rw [WC.out]; simp [hR, hP, hG, hL])
                  go_wp2_with (first | (go_at_call 53; refine (any_Room.calls 48 #[.pointer (some ⟨g1, 0, none⟩)] (roomBad x.f0.length) (fun args w => enters_ Tryd.func48 (by kernel_rfl) rfl args w) D1 e1 x.f1 _ (Kd.C_below HR1.out HB.out) HC1.out (roomBad_pred g1 _ _ B1.out)).mono ?_; rintro e wc ⟨rfl, hb⟩; clear zr zf z1 z2 z3 zs1 zs2 zs3 zs4; replace BS := Aside0.mk (blk_below BS.out hb); replace BR := Aside0.mk (blk_below BR.out hb); replace B1 := Aside0.mk (blk_below B1.out hb); replace B2 := Aside0.mk (blk_below B2.out hb); replace B3 := Aside0.mk (blk_below B3.out hb); replace HM := Aside0.mk (HM.out.below hb); replace HB := Aside0.mk (below_step HB.out hb); clear hb; have zr : wc.cell? ⟨gr, 0, none⟩ = some (.int .i64 0) := (blk_cell BR.out 0).trans rfl; have zf := blk_frozen BR.out 0; have z1 : wc.cell? ⟨g1, 0, none⟩ = some (.int .i64 x.f0.length) := (blk_cell B1.out 0).trans rfl; have z2 : wc.cell? ⟨g2, 0, none⟩ = some (.int .i64 x.f2.length) := (blk_cell B2.out 0).trans rfl; have z3 : wc.cell? ⟨g3, 0, none⟩ = some (.int .i64 x.f3.length) := (blk_cell B3.out 0).trans rfl; have zs1 : wc.cell? ⟨gs, 1, none⟩ = some (.slice D1 x.f1.length e1) := (blk_cell BS.out 1).trans rfl; have zs2 : wc.cell? ⟨gs, 2, none⟩ = some (.slice D2 x.f2.length e2) := (blk_cell BS.out 2).trans rfl; have zs3 : wc.cell? ⟨gs, 3, none⟩ = some (.slice D3 x.f3.length e3) := (blk_cell BS.out 3).trans rfl; have zs4 : wc.cell? ⟨gs, 4, none⟩ = some (.slice D4 x.f4.length e4) := (blk_cell BS.out 4).trans rfl) | (go_at_call 54; refine (any_Person.calls 50 #[.pointer (some ⟨g1, 0, none⟩)] (personBad x.f0.length) (fun args w => enters_ Tryd.func50 (by kernel_rfl) rfl args w) D2 e2 x.f2 _ (Kd.C_below HR2.out HB.out) HC2.out (personBad_pred g1 _ _ B1.out)).mono ?_; rintro e wc ⟨rfl, hb⟩; clear zr zf z1 z2 z3 zs1 zs2 zs3 zs4; replace BS := Aside0.mk (blk_below BS.out hb); replace BR := Aside0.mk (blk_below BR.out hb); replace B1 := Aside0.mk (blk_below B1.out hb); replace B2 := Aside0.mk (blk_below B2.out hb); replace B3 := Aside0.mk (blk_below B3.out hb); replace HM := Aside0.mk (HM.out.below hb); replace HB := Aside0.mk (below_step HB.out hb); clear hb; have zr : wc.cell? ⟨gr, 0, none⟩ = some (.int .i64 0) := (blk_cell BR.out 0).trans rfl; have zf := blk_frozen BR.out 0; have z1 : wc.cell? ⟨g1, 0, none⟩ = some (.int .i64 x.f0.length) := (blk_cell B1.out 0).trans rfl; have z2 : wc.cell? ⟨g2, 0, none⟩ = some (.int .i64 x.f2.length) := (blk_cell B2.out 0).trans rfl; have z3 : wc.cell? ⟨g3, 0, none⟩ = some (.int .i64 x.f3.length) := (blk_cell B3.out 0).trans rfl; have zs1 : wc.cell? ⟨gs, 1, none⟩ = some (.slice D1 x.f1.length e1) := (blk_cell BS.out 1).trans rfl; have zs2 : wc.cell? ⟨gs, 2, none⟩ = some (.slice D2 x.f2.length e2) := (blk_cell BS.out 2).trans rfl; have zs3 : wc.cell? ⟨gs, 3, none⟩ = some (.slice D3 x.f3.length e3) := (blk_cell BS.out 3).trans rfl; have zs4 : wc.cell? ⟨gs, 4, none⟩ = some (.slice D4 x.f4.length e4) := (blk_cell BS.out 4).trans rfl) | (go_at_call 55; refine (any_Group.calls 51 #[] (groupBad) (fun args w => enters_ Tryd.func51 (by kernel_rfl) rfl args w) D3 e3 x.f3 _ (Kd.C_below HR3.out HB.out) HC3.out (groupBad_pred _)).mono ?_; rintro e wc ⟨rfl, hb⟩; clear zr zf z1 z2 z3 zs1 zs2 zs3 zs4; replace BS := Aside0.mk (blk_below BS.out hb); replace BR := Aside0.mk (blk_below BR.out hb); replace B1 := Aside0.mk (blk_below B1.out hb); replace B2 := Aside0.mk (blk_below B2.out hb); replace B3 := Aside0.mk (blk_below B3.out hb); replace HM := Aside0.mk (HM.out.below hb); replace HB := Aside0.mk (below_step HB.out hb); clear hb; have zr : wc.cell? ⟨gr, 0, none⟩ = some (.int .i64 0) := (blk_cell BR.out 0).trans rfl; have zf := blk_frozen BR.out 0; have z1 : wc.cell? ⟨g1, 0, none⟩ = some (.int .i64 x.f0.length) := (blk_cell B1.out 0).trans rfl; have z2 : wc.cell? ⟨g2, 0, none⟩ = some (.int .i64 x.f2.length) := (blk_cell B2.out 0).trans rfl; have z3 : wc.cell? ⟨g3, 0, none⟩ = some (.int .i64 x.f3.length) := (blk_cell B3.out 0).trans rfl; have zs1 : wc.cell? ⟨gs, 1, none⟩ = some (.slice D1 x.f1.length e1) := (blk_cell BS.out 1).trans rfl; have zs2 : wc.cell? ⟨gs, 2, none⟩ = some (.slice D2 x.f2.length e2) := (blk_cell BS.out 2).trans rfl; have zs3 : wc.cell? ⟨gs, 3, none⟩ = some (.slice D3 x.f3.length e3) := (blk_cell BS.out 3).trans rfl; have zs4 : wc.cell? ⟨gs, 4, none⟩ = some (.slice D4 x.f4.length e4) := (blk_cell BS.out 4).trans rfl) | (go_at_call 56; refine (any_Lesson.calls 52 #[.pointer (some ⟨g2, 0, none⟩), .pointer (some ⟨g3, 0, none⟩)] (lessonBad x.f2.length x.f3.length) (fun args w => enters_ Tryd.func52 (by kernel_rfl) rfl args w) D4 e4 x.f4 _ (Kd.C_below HR4.out HB.out) HC4.out (lessonBad_pred g2 g3 _ _ _ B2.out B3.out)).mono ?_; rintro e wc ⟨rfl, hb⟩; clear zr zf z1 z2 z3 zs1 zs2 zs3 zs4; replace BS := Aside0.mk (blk_below BS.out hb); replace BR := Aside0.mk (blk_below BR.out hb); replace B1 := Aside0.mk (blk_below B1.out hb); replace B2 := Aside0.mk (blk_below B2.out hb); replace B3 := Aside0.mk (blk_below B3.out hb); replace HM := Aside0.mk (HM.out.below hb); replace HB := Aside0.mk (below_step HB.out hb); clear hb; have zr : wc.cell? ⟨gr, 0, none⟩ = some (.int .i64 0) := (blk_cell BR.out 0).trans rfl; have zf := blk_frozen BR.out 0; have z1 : wc.cell? ⟨g1, 0, none⟩ = some (.int .i64 x.f0.length) := (blk_cell B1.out 0).trans rfl; have z2 : wc.cell? ⟨g2, 0, none⟩ = some (.int .i64 x.f2.length) := (blk_cell B2.out 0).trans rfl; have z3 : wc.cell? ⟨g3, 0, none⟩ = some (.int .i64 x.f3.length) := (blk_cell B3.out 0).trans rfl; have zs1 : wc.cell? ⟨gs, 1, none⟩ = some (.slice D1 x.f1.length e1) := (blk_cell BS.out 1).trans rfl; have zs2 : wc.cell? ⟨gs, 2, none⟩ = some (.slice D2 x.f2.length e2) := (blk_cell BS.out 2).trans rfl; have zs3 : wc.cell? ⟨gs, 3, none⟩ = some (.slice D3 x.f3.length e3) := (blk_cell BS.out 3).trans rfl; have zs4 : wc.cell? ⟨gs, 4, none⟩ = some (.slice D4 x.f4.length e4) := (blk_cell BS.out 4).trans rfl))
                  exact check_ret WC.out.symm rfl (blk_put BR.out 0 _ rfl) (marks_set HM.out _ _) (below_set HB.out HGr.out)
                | false =>
                  replace WC := Aside0.mk (show checkS x = if 50 < x.f0.length ∨ 32 < x.f1.length ∨ 64 < x.f2.length ∨ 64 < x.f3.length ∨ 64 < x.f4.length then 2 else 0 by rw [WC.out]; simp [hR, hP, hG, hL])
                  by_cases h0 : 50 < x.f0.length
                  · have V0 := Aside0.mk h0
                    have n0 : decide ((50 : Int) < (x.f0.length : Int)) = true := decide_eq_true (by omega)
                    have n0' : decide (50 < x.f0.length) = true := decide_eq_true (by omega)
                    clear h0
                    go_wp2_with (first | (go_at_call 53; refine (any_Room.calls 48 #[.pointer (some ⟨g1, 0, none⟩)] (roomBad x.f0.length) (fun args w => enters_ Tryd.func48 (by kernel_rfl) rfl args w) D1 e1 x.f1 _ (Kd.C_below HR1.out HB.out) HC1.out (roomBad_pred g1 _ _ B1.out)).mono ?_; rintro e wc ⟨rfl, hb⟩; clear zr zf z1 z2 z3 zs1 zs2 zs3 zs4; replace BS := Aside0.mk (blk_below BS.out hb); replace BR := Aside0.mk (blk_below BR.out hb); replace B1 := Aside0.mk (blk_below B1.out hb); replace B2 := Aside0.mk (blk_below B2.out hb); replace B3 := Aside0.mk (blk_below B3.out hb); replace HM := Aside0.mk (HM.out.below hb); replace HB := Aside0.mk (below_step HB.out hb); clear hb; have zr : wc.cell? ⟨gr, 0, none⟩ = some (.int .i64 0) := (blk_cell BR.out 0).trans rfl; have zf := blk_frozen BR.out 0; have z1 : wc.cell? ⟨g1, 0, none⟩ = some (.int .i64 x.f0.length) := (blk_cell B1.out 0).trans rfl; have z2 : wc.cell? ⟨g2, 0, none⟩ = some (.int .i64 x.f2.length) := (blk_cell B2.out 0).trans rfl; have z3 : wc.cell? ⟨g3, 0, none⟩ = some (.int .i64 x.f3.length) := (blk_cell B3.out 0).trans rfl; have zs1 : wc.cell? ⟨gs, 1, none⟩ = some (.slice D1 x.f1.length e1) := (blk_cell BS.out 1).trans rfl; have zs2 : wc.cell? ⟨gs, 2, none⟩ = some (.slice D2 x.f2.length e2) := (blk_cell BS.out 2).trans rfl; have zs3 : wc.cell? ⟨gs, 3, none⟩ = some (.slice D3 x.f3.length e3) := (blk_cell BS.out 3).trans rfl; have zs4 : wc.cell? ⟨gs, 4, none⟩ = some (.slice D4 x.f4.length e4) := (blk_cell BS.out 4).trans rfl) | (go_at_call 54; refine (any_Person.calls 50 #[.pointer (some ⟨g1, 0, none⟩)] (personBad x.f0.length) (fun args w => enters_ Tryd.func50 (by kernel_rfl) rfl args w) D2 e2 x.f2 _ (Kd.C_below HR2.out HB.out) HC2.out (personBad_pred g1 _ _ B1.out)).mono ?_; rintro e wc ⟨rfl, hb⟩; clear zr zf z1 z2 z3 zs1 zs2 zs3 zs4; replace BS := Aside0.mk (blk_below BS.out hb); replace BR := Aside0.mk (blk_below BR.out hb); replace B1 := Aside0.mk (blk_below B1.out hb); replace B2 := Aside0.mk (blk_below B2.out hb); replace B3 := Aside0.mk (blk_below B3.out hb); replace HM := Aside0.mk (HM.out.below hb); replace HB := Aside0.mk (below_step HB.out hb); clear hb; have zr : wc.cell? ⟨gr, 0, none⟩ = some (.int .i64 0) := (blk_cell BR.out 0).trans rfl; have zf := blk_frozen BR.out 0; have z1 : wc.cell? ⟨g1, 0, none⟩ = some (.int .i64 x.f0.length) := (blk_cell B1.out 0).trans rfl; have z2 : wc.cell? ⟨g2, 0, none⟩ = some (.int .i64 x.f2.length) := (blk_cell B2.out 0).trans rfl; have z3 : wc.cell? ⟨g3, 0, none⟩ = some (.int .i64 x.f3.length) := (blk_cell B3.out 0).trans rfl; have zs1 : wc.cell? ⟨gs, 1, none⟩ = some (.slice D1 x.f1.length e1) := (blk_cell BS.out 1).trans rfl; have zs2 : wc.cell? ⟨gs, 2, none⟩ = some (.slice D2 x.f2.length e2) := (blk_cell BS.out 2).trans rfl; have zs3 : wc.cell? ⟨gs, 3, none⟩ = some (.slice D3 x.f3.length e3) := (blk_cell BS.out 3).trans rfl; have zs4 : wc.cell? ⟨gs, 4, none⟩ = some (.slice D4 x.f4.length e4) := (blk_cell BS.out 4).trans rfl) | (go_at_call 55; refine (any_Group.calls 51 #[] (groupBad) (fun args w => enters_ Tryd.func51 (by kernel_rfl) rfl args w) D3 e3 x.f3 _ (Kd.C_below HR3.out HB.out) HC3.out (groupBad_pred _)).mono ?_; rintro e wc ⟨rfl, hb⟩; clear zr zf z1 z2 z3 zs1 zs2 zs3 zs4; replace BS := Aside0.mk (blk_below BS.out hb); replace BR := Aside0.mk (blk_below BR.out hb); replace B1 := Aside0.mk (blk_below B1.out hb); replace B2 := Aside0.mk (blk_below B2.out hb); replace B3 := Aside0.mk (blk_below B3.out hb); replace HM := Aside0.mk (HM.out.below hb); replace HB := Aside0.mk (below_step HB.out hb); clear hb; have zr : wc.cell? ⟨gr, 0, none⟩ = some (.int .i64 0) := (blk_cell BR.out 0).trans rfl; have zf := blk_frozen BR.out 0; have z1 : wc.cell? ⟨g1, 0, none⟩ = some (.int .i64 x.f0.length) := (blk_cell B1.out 0).trans rfl; have z2 : wc.cell? ⟨g2, 0, none⟩ = some (.int .i64 x.f2.length) := (blk_cell B2.out 0).trans rfl; have z3 : wc.cell? ⟨g3, 0, none⟩ = some (.int .i64 x.f3.length) := (blk_cell B3.out 0).trans rfl; have zs1 : wc.cell? ⟨gs, 1, none⟩ = some (.slice D1 x.f1.length e1) := (blk_cell BS.out 1).trans rfl; have zs2 : wc.cell? ⟨gs, 2, none⟩ = some (.slice D2 x.f2.length e2) := (blk_cell BS.out 2).trans rfl; have zs3 : wc.cell? ⟨gs, 3, none⟩ = some (.slice D3 x.f3.length e3) := (blk_cell BS.out 3).trans rfl; have zs4 : wc.cell? ⟨gs, 4, none⟩ = some (.slice D4 x.f4.length e4) := (blk_cell BS.out 4).trans rfl) | (go_at_call 56; refine (any_Lesson.calls 52 #[.pointer (some ⟨g2, 0, none⟩), .pointer (some ⟨g3, 0, none⟩)] (lessonBad x.f2.length x.f3.length) (fun args w => enters_ Tryd.func52 (by kernel_rfl) rfl args w) D4 e4 x.f4 _ (Kd.C_below HR4.out HB.out) HC4.out (lessonBad_pred g2 g3 _ _ _ B2.out B3.out)).mono ?_; rintro e wc ⟨rfl, hb⟩; clear zr zf z1 z2 z3 zs1 zs2 zs3 zs4; replace BS := Aside0.mk (blk_below BS.out hb); replace BR := Aside0.mk (blk_below BR.out hb); replace B1 := Aside0.mk (blk_below B1.out hb); replace B2 := Aside0.mk (blk_below B2.out hb); replace B3 := Aside0.mk (blk_below B3.out hb); replace HM := Aside0.mk (HM.out.below hb); replace HB := Aside0.mk (below_step HB.out hb); clear hb; have zr : wc.cell? ⟨gr, 0, none⟩ = some (.int .i64 0) := (blk_cell BR.out 0).trans rfl; have zf := blk_frozen BR.out 0; have z1 : wc.cell? ⟨g1, 0, none⟩ = some (.int .i64 x.f0.length) := (blk_cell B1.out 0).trans rfl; have z2 : wc.cell? ⟨g2, 0, none⟩ = some (.int .i64 x.f2.length) := (blk_cell B2.out 0).trans rfl; have z3 : wc.cell? ⟨g3, 0, none⟩ = some (.int .i64 x.f3.length) := (blk_cell B3.out 0).trans rfl; have zs1 : wc.cell? ⟨gs, 1, none⟩ = some (.slice D1 x.f1.length e1) := (blk_cell BS.out 1).trans rfl; have zs2 : wc.cell? ⟨gs, 2, none⟩ = some (.slice D2 x.f2.length e2) := (blk_cell BS.out 2).trans rfl; have zs3 : wc.cell? ⟨gs, 3, none⟩ = some (.slice D3 x.f3.length e3) := (blk_cell BS.out 3).trans rfl; have zs4 : wc.cell? ⟨gs, 4, none⟩ = some (.slice D4 x.f4.length e4) := (blk_cell BS.out 4).trans rfl))
                    exact check_ret (by rw [WC.out]; rw [if_pos (by have := V0.out; omega)]) rfl (blk_put BR.out 0 _ rfl) (marks_set HM.out _ _) (below_set HB.out HGr.out)
                  have V0 := Aside0.mk h0
                  have n0 : decide ((50 : Int) < (x.f0.length : Int)) = false := decide_eq_false (by omega)
                  have n0' : decide (50 < x.f0.length) = false := decide_eq_false (by omega)
                  clear h0
                  by_cases h0 : 32 < x.f1.length
                  · have V1 := Aside0.mk h0
                    have n1 : decide ((32 : Int) < (x.f1.length : Int)) = true := decide_eq_true (by omega)
                    have n1' : decide (32 < x.f1.length) = true := decide_eq_true (by omega)
                    clear h0
                    go_wp2_with (first | (go_at_call 53; refine (any_Room.calls 48 #[.pointer (some ⟨g1, 0, none⟩)] (roomBad x.f0.length) (fun args w => enters_ Tryd.func48 (by kernel_rfl) rfl args w) D1 e1 x.f1 _ (Kd.C_below HR1.out HB.out) HC1.out (roomBad_pred g1 _ _ B1.out)).mono ?_; rintro e wc ⟨rfl, hb⟩; clear zr zf z1 z2 z3 zs1 zs2 zs3 zs4; replace BS := Aside0.mk (blk_below BS.out hb); replace BR := Aside0.mk (blk_below BR.out hb); replace B1 := Aside0.mk (blk_below B1.out hb); replace B2 := Aside0.mk (blk_below B2.out hb); replace B3 := Aside0.mk (blk_below B3.out hb); replace HM := Aside0.mk (HM.out.below hb); replace HB := Aside0.mk (below_step HB.out hb); clear hb; have zr : wc.cell? ⟨gr, 0, none⟩ = some (.int .i64 0) := (blk_cell BR.out 0).trans rfl; have zf := blk_frozen BR.out 0; have z1 : wc.cell? ⟨g1, 0, none⟩ = some (.int .i64 x.f0.length) := (blk_cell B1.out 0).trans rfl; have z2 : wc.cell? ⟨g2, 0, none⟩ = some (.int .i64 x.f2.length) := (blk_cell B2.out 0).trans rfl; have z3 : wc.cell? ⟨g3, 0, none⟩ = some (.int .i64 x.f3.length) := (blk_cell B3.out 0).trans rfl; have zs1 : wc.cell? ⟨gs, 1, none⟩ = some (.slice D1 x.f1.length e1) := (blk_cell BS.out 1).trans rfl; have zs2 : wc.cell? ⟨gs, 2, none⟩ = some (.slice D2 x.f2.length e2) := (blk_cell BS.out 2).trans rfl; have zs3 : wc.cell? ⟨gs, 3, none⟩ = some (.slice D3 x.f3.length e3) := (blk_cell BS.out 3).trans rfl; have zs4 : wc.cell? ⟨gs, 4, none⟩ = some (.slice D4 x.f4.length e4) := (blk_cell BS.out 4).trans rfl) | (go_at_call 54; refine (any_Person.calls 50 #[.pointer (some ⟨g1, 0, none⟩)] (personBad x.f0.length) (fun args w => enters_ Tryd.func50 (by kernel_rfl) rfl args w) D2 e2 x.f2 _ (Kd.C_below HR2.out HB.out) HC2.out (personBad_pred g1 _ _ B1.out)).mono ?_; rintro e wc ⟨rfl, hb⟩; clear zr zf z1 z2 z3 zs1 zs2 zs3 zs4; replace BS := Aside0.mk (blk_below BS.out hb); replace BR := Aside0.mk (blk_below BR.out hb); replace B1 := Aside0.mk (blk_below B1.out hb); replace B2 := Aside0.mk (blk_below B2.out hb); replace B3 := Aside0.mk (blk_below B3.out hb); replace HM := Aside0.mk (HM.out.below hb); replace HB := Aside0.mk (below_step HB.out hb); clear hb; have zr : wc.cell? ⟨gr, 0, none⟩ = some (.int .i64 0) := (blk_cell BR.out 0).trans rfl; have zf := blk_frozen BR.out 0; have z1 : wc.cell? ⟨g1, 0, none⟩ = some (.int .i64 x.f0.length) := (blk_cell B1.out 0).trans rfl; have z2 : wc.cell? ⟨g2, 0, none⟩ = some (.int .i64 x.f2.length) := (blk_cell B2.out 0).trans rfl; have z3 : wc.cell? ⟨g3, 0, none⟩ = some (.int .i64 x.f3.length) := (blk_cell B3.out 0).trans rfl; have zs1 : wc.cell? ⟨gs, 1, none⟩ = some (.slice D1 x.f1.length e1) := (blk_cell BS.out 1).trans rfl; have zs2 : wc.cell? ⟨gs, 2, none⟩ = some (.slice D2 x.f2.length e2) := (blk_cell BS.out 2).trans rfl; have zs3 : wc.cell? ⟨gs, 3, none⟩ = some (.slice D3 x.f3.length e3) := (blk_cell BS.out 3).trans rfl; have zs4 : wc.cell? ⟨gs, 4, none⟩ = some (.slice D4 x.f4.length e4) := (blk_cell BS.out 4).trans rfl) | (go_at_call 55; refine (any_Group.calls 51 #[] (groupBad) (fun args w => enters_ Tryd.func51 (by kernel_rfl) rfl args w) D3 e3 x.f3 _ (Kd.C_below HR3.out HB.out) HC3.out (groupBad_pred _)).mono ?_; rintro e wc ⟨rfl, hb⟩; clear zr zf z1 z2 z3 zs1 zs2 zs3 zs4; replace BS := Aside0.mk (blk_below BS.out hb); replace BR := Aside0.mk (blk_below BR.out hb); replace B1 := Aside0.mk (blk_below B1.out hb); replace B2 := Aside0.mk (blk_below B2.out hb); replace B3 := Aside0.mk (blk_below B3.out hb); replace HM := Aside0.mk (HM.out.below hb); replace HB := Aside0.mk (below_step HB.out hb); clear hb; have zr : wc.cell? ⟨gr, 0, none⟩ = some (.int .i64 0) := (blk_cell BR.out 0).trans rfl; have zf := blk_frozen BR.out 0; have z1 : wc.cell? ⟨g1, 0, none⟩ = some (.int .i64 x.f0.length) := (blk_cell B1.out 0).trans rfl; have z2 : wc.cell? ⟨g2, 0, none⟩ = some (.int .i64 x.f2.length) := (blk_cell B2.out 0).trans rfl; have z3 : wc.cell? ⟨g3, 0, none⟩ = some (.int .i64 x.f3.length) := (blk_cell B3.out 0).trans rfl; have zs1 : wc.cell? ⟨gs, 1, none⟩ = some (.slice D1 x.f1.length e1) := (blk_cell BS.out 1).trans rfl; have zs2 : wc.cell? ⟨gs, 2, none⟩ = some (.slice D2 x.f2.length e2) := (blk_cell BS.out 2).trans rfl; have zs3 : wc.cell? ⟨gs, 3, none⟩ = some (.slice D3 x.f3.length e3) := (blk_cell BS.out 3).trans rfl; have zs4 : wc.cell? ⟨gs, 4, none⟩ = some (.slice D4 x.f4.length e4) := (blk_cell BS.out 4).trans rfl) | (go_at_call 56; refine (any_Lesson.calls 52 #[.pointer (some ⟨g2, 0, none⟩), .pointer (some ⟨g3, 0, none⟩)] (lessonBad x.f2.length x.f3.length) (fun args w => enters_ Tryd.func52 (by kernel_rfl) rfl args w) D4 e4 x.f4 _ (Kd.C_below HR4.out HB.out) HC4.out (lessonBad_pred g2 g3 _ _ _ B2.out B3.out)).mono ?_; rintro e wc ⟨rfl, hb⟩; clear zr zf z1 z2 z3 zs1 zs2 zs3 zs4; replace BS := Aside0.mk (blk_below BS.out hb); replace BR := Aside0.mk (blk_below BR.out hb); replace B1 := Aside0.mk (blk_below B1.out hb); replace B2 := Aside0.mk (blk_below B2.out hb); replace B3 := Aside0.mk (blk_below B3.out hb); replace HM := Aside0.mk (HM.out.below hb); replace HB := Aside0.mk (below_step HB.out hb); clear hb; have zr : wc.cell? ⟨gr, 0, none⟩ = some (.int .i64 0) := (blk_cell BR.out 0).trans rfl; have zf := blk_frozen BR.out 0; have z1 : wc.cell? ⟨g1, 0, none⟩ = some (.int .i64 x.f0.length) := (blk_cell B1.out 0).trans rfl; have z2 : wc.cell? ⟨g2, 0, none⟩ = some (.int .i64 x.f2.length) := (blk_cell B2.out 0).trans rfl; have z3 : wc.cell? ⟨g3, 0, none⟩ = some (.int .i64 x.f3.length) := (blk_cell B3.out 0).trans rfl; have zs1 : wc.cell? ⟨gs, 1, none⟩ = some (.slice D1 x.f1.length e1) := (blk_cell BS.out 1).trans rfl; have zs2 : wc.cell? ⟨gs, 2, none⟩ = some (.slice D2 x.f2.length e2) := (blk_cell BS.out 2).trans rfl; have zs3 : wc.cell? ⟨gs, 3, none⟩ = some (.slice D3 x.f3.length e3) := (blk_cell BS.out 3).trans rfl; have zs4 : wc.cell? ⟨gs, 4, none⟩ = some (.slice D4 x.f4.length e4) := (blk_cell BS.out 4).trans rfl))
                    exact check_ret (by rw [WC.out]; rw [if_pos (by have := V1.out; omega)]) rfl (blk_put BR.out 0 _ rfl) (marks_set HM.out _ _) (below_set HB.out HGr.out)
                  have V1 := Aside0.mk h0
                  have n1 : decide ((32 : Int) < (x.f1.length : Int)) = false := decide_eq_false (by omega)
                  have n1' : decide (32 < x.f1.length) = false := decide_eq_false (by omega)
                  clear h0
                  by_cases h0 : 64 < x.f2.length
                  · have V2 := Aside0.mk h0
                    have n2 : decide ((64 : Int) < (x.f2.length : Int)) = true := decide_eq_true (by omega)
                    have n2' : decide (64 < x.f2.length) = true := decide_eq_true (by omega)
                    clear h0
                    go_wp2_with (first | (go_at_call 53; refine (any_Room.calls 48 #[.pointer (some ⟨g1, 0, none⟩)] (roomBad x.f0.length) (fun args w => enters_ Tryd.func48 (by kernel_rfl) rfl args w) D1 e1 x.f1 _ (Kd.C_below HR1.out HB.out) HC1.out (roomBad_pred g1 _ _ B1.out)).mono ?_; rintro e wc ⟨rfl, hb⟩; clear zr zf z1 z2 z3 zs1 zs2 zs3 zs4; replace BS := Aside0.mk (blk_below BS.out hb); replace BR := Aside0.mk (blk_below BR.out hb); replace B1 := Aside0.mk (blk_below B1.out hb); replace B2 := Aside0.mk (blk_below B2.out hb); replace B3 := Aside0.mk (blk_below B3.out hb); replace HM := Aside0.mk (HM.out.below hb); replace HB := Aside0.mk (below_step HB.out hb); clear hb; have zr : wc.cell? ⟨gr, 0, none⟩ = some (.int .i64 0) := (blk_cell BR.out 0).trans rfl; have zf := blk_frozen BR.out 0; have z1 : wc.cell? ⟨g1, 0, none⟩ = some (.int .i64 x.f0.length) := (blk_cell B1.out 0).trans rfl; have z2 : wc.cell? ⟨g2, 0, none⟩ = some (.int .i64 x.f2.length) := (blk_cell B2.out 0).trans rfl; have z3 : wc.cell? ⟨g3, 0, none⟩ = some (.int .i64 x.f3.length) := (blk_cell B3.out 0).trans rfl; have zs1 : wc.cell? ⟨gs, 1, none⟩ = some (.slice D1 x.f1.length e1) := (blk_cell BS.out 1).trans rfl; have zs2 : wc.cell? ⟨gs, 2, none⟩ = some (.slice D2 x.f2.length e2) := (blk_cell BS.out 2).trans rfl; have zs3 : wc.cell? ⟨gs, 3, none⟩ = some (.slice D3 x.f3.length e3) := (blk_cell BS.out 3).trans rfl; have zs4 : wc.cell? ⟨gs, 4, none⟩ = some (.slice D4 x.f4.length e4) := (blk_cell BS.out 4).trans rfl) | (go_at_call 54; refine (any_Person.calls 50 #[.pointer (some ⟨g1, 0, none⟩)] (personBad x.f0.length) (fun args w => enters_ Tryd.func50 (by kernel_rfl) rfl args w) D2 e2 x.f2 _ (Kd.C_below HR2.out HB.out) HC2.out (personBad_pred g1 _ _ B1.out)).mono ?_; rintro e wc ⟨rfl, hb⟩; clear zr zf z1 z2 z3 zs1 zs2 zs3 zs4; replace BS := Aside0.mk (blk_below BS.out hb); replace BR := Aside0.mk (blk_below BR.out hb); replace B1 := Aside0.mk (blk_below B1.out hb); replace B2 := Aside0.mk (blk_below B2.out hb); replace B3 := Aside0.mk (blk_below B3.out hb); replace HM := Aside0.mk (HM.out.below hb); replace HB := Aside0.mk (below_step HB.out hb); clear hb; have zr : wc.cell? ⟨gr, 0, none⟩ = some (.int .i64 0) := (blk_cell BR.out 0).trans rfl; have zf := blk_frozen BR.out 0; have z1 : wc.cell? ⟨g1, 0, none⟩ = some (.int .i64 x.f0.length) := (blk_cell B1.out 0).trans rfl; have z2 : wc.cell? ⟨g2, 0, none⟩ = some (.int .i64 x.f2.length) := (blk_cell B2.out 0).trans rfl; have z3 : wc.cell? ⟨g3, 0, none⟩ = some (.int .i64 x.f3.length) := (blk_cell B3.out 0).trans rfl; have zs1 : wc.cell? ⟨gs, 1, none⟩ = some (.slice D1 x.f1.length e1) := (blk_cell BS.out 1).trans rfl; have zs2 : wc.cell? ⟨gs, 2, none⟩ = some (.slice D2 x.f2.length e2) := (blk_cell BS.out 2).trans rfl; have zs3 : wc.cell? ⟨gs, 3, none⟩ = some (.slice D3 x.f3.length e3) := (blk_cell BS.out 3).trans rfl; have zs4 : wc.cell? ⟨gs, 4, none⟩ = some (.slice D4 x.f4.length e4) := (blk_cell BS.out 4).trans rfl) | (go_at_call 55; refine (any_Group.calls 51 #[] (groupBad) (fun args w => enters_ Tryd.func51 (by kernel_rfl) rfl args w) D3 e3 x.f3 _ (Kd.C_below HR3.out HB.out) HC3.out (groupBad_pred _)).mono ?_; rintro e wc ⟨rfl, hb⟩; clear zr zf z1 z2 z3 zs1 zs2 zs3 zs4; replace BS := Aside0.mk (blk_below BS.out hb); replace BR := Aside0.mk (blk_below BR.out hb); replace B1 := Aside0.mk (blk_below B1.out hb); replace B2 := Aside0.mk (blk_below B2.out hb); replace B3 := Aside0.mk (blk_below B3.out hb); replace HM := Aside0.mk (HM.out.below hb); replace HB := Aside0.mk (below_step HB.out hb); clear hb; have zr : wc.cell? ⟨gr, 0, none⟩ = some (.int .i64 0) := (blk_cell BR.out 0).trans rfl; have zf := blk_frozen BR.out 0; have z1 : wc.cell? ⟨g1, 0, none⟩ = some (.int .i64 x.f0.length) := (blk_cell B1.out 0).trans rfl; have z2 : wc.cell? ⟨g2, 0, none⟩ = some (.int .i64 x.f2.length) := (blk_cell B2.out 0).trans rfl; have z3 : wc.cell? ⟨g3, 0, none⟩ = some (.int .i64 x.f3.length) := (blk_cell B3.out 0).trans rfl; have zs1 : wc.cell? ⟨gs, 1, none⟩ = some (.slice D1 x.f1.length e1) := (blk_cell BS.out 1).trans rfl; have zs2 : wc.cell? ⟨gs, 2, none⟩ = some (.slice D2 x.f2.length e2) := (blk_cell BS.out 2).trans rfl; have zs3 : wc.cell? ⟨gs, 3, none⟩ = some (.slice D3 x.f3.length e3) := (blk_cell BS.out 3).trans rfl; have zs4 : wc.cell? ⟨gs, 4, none⟩ = some (.slice D4 x.f4.length e4) := (blk_cell BS.out 4).trans rfl) | (go_at_call 56; refine (any_Lesson.calls 52 #[.pointer (some ⟨g2, 0, none⟩), .pointer (some ⟨g3, 0, none⟩)] (lessonBad x.f2.length x.f3.length) (fun args w => enters_ Tryd.func52 (by kernel_rfl) rfl args w) D4 e4 x.f4 _ (Kd.C_below HR4.out HB.out) HC4.out (lessonBad_pred g2 g3 _ _ _ B2.out B3.out)).mono ?_; rintro e wc ⟨rfl, hb⟩; clear zr zf z1 z2 z3 zs1 zs2 zs3 zs4; replace BS := Aside0.mk (blk_below BS.out hb); replace BR := Aside0.mk (blk_below BR.out hb); replace B1 := Aside0.mk (blk_below B1.out hb); replace B2 := Aside0.mk (blk_below B2.out hb); replace B3 := Aside0.mk (blk_below B3.out hb); replace HM := Aside0.mk (HM.out.below hb); replace HB := Aside0.mk (below_step HB.out hb); clear hb; have zr : wc.cell? ⟨gr, 0, none⟩ = some (.int .i64 0) := (blk_cell BR.out 0).trans rfl; have zf := blk_frozen BR.out 0; have z1 : wc.cell? ⟨g1, 0, none⟩ = some (.int .i64 x.f0.length) := (blk_cell B1.out 0).trans rfl; have z2 : wc.cell? ⟨g2, 0, none⟩ = some (.int .i64 x.f2.length) := (blk_cell B2.out 0).trans rfl; have z3 : wc.cell? ⟨g3, 0, none⟩ = some (.int .i64 x.f3.length) := (blk_cell B3.out 0).trans rfl; have zs1 : wc.cell? ⟨gs, 1, none⟩ = some (.slice D1 x.f1.length e1) := (blk_cell BS.out 1).trans rfl; have zs2 : wc.cell? ⟨gs, 2, none⟩ = some (.slice D2 x.f2.length e2) := (blk_cell BS.out 2).trans rfl; have zs3 : wc.cell? ⟨gs, 3, none⟩ = some (.slice D3 x.f3.length e3) := (blk_cell BS.out 3).trans rfl; have zs4 : wc.cell? ⟨gs, 4, none⟩ = some (.slice D4 x.f4.length e4) := (blk_cell BS.out 4).trans rfl))
                    exact check_ret (by rw [WC.out]; rw [if_pos (by have := V2.out; omega)]) rfl (blk_put BR.out 0 _ rfl) (marks_set HM.out _ _) (below_set HB.out HGr.out)
                  have V2 := Aside0.mk h0
                  have n2 : decide ((64 : Int) < (x.f2.length : Int)) = false := decide_eq_false (by omega)
                  have n2' : decide (64 < x.f2.length) = false := decide_eq_false (by omega)
                  clear h0
                  by_cases h0 : 64 < x.f3.length
                  · have V3 := Aside0.mk h0
                    have n3 : decide ((64 : Int) < (x.f3.length : Int)) = true := decide_eq_true (by omega)
                    have n3' : decide (64 < x.f3.length) = true := decide_eq_true (by omega)
                    clear h0
                    go_wp2_with (first | (go_at_call 53; refine (any_Room.calls 48 #[.pointer (some ⟨g1, 0, none⟩)] (roomBad x.f0.length) (fun args w => enters_ Tryd.func48 (by kernel_rfl) rfl args w) D1 e1 x.f1 _ (Kd.C_below HR1.out HB.out) HC1.out (roomBad_pred g1 _ _ B1.out)).mono ?_; rintro e wc ⟨rfl, hb⟩; clear zr zf z1 z2 z3 zs1 zs2 zs3 zs4; replace BS := Aside0.mk (blk_below BS.out hb); replace BR := Aside0.mk (blk_below BR.out hb); replace B1 := Aside0.mk (blk_below B1.out hb); replace B2 := Aside0.mk (blk_below B2.out hb); replace B3 := Aside0.mk (blk_below B3.out hb); replace HM := Aside0.mk (HM.out.below hb); replace HB := Aside0.mk (below_step HB.out hb); clear hb; have zr : wc.cell? ⟨gr, 0, none⟩ = some (.int .i64 0) := (blk_cell BR.out 0).trans rfl; have zf := blk_frozen BR.out 0; have z1 : wc.cell? ⟨g1, 0, none⟩ = some (.int .i64 x.f0.length) := (blk_cell B1.out 0).trans rfl; have z2 : wc.cell? ⟨g2, 0, none⟩ = some (.int .i64 x.f2.length) := (blk_cell B2.out 0).trans rfl; have z3 : wc.cell? ⟨g3, 0, none⟩ = some (.int .i64 x.f3.length) := (blk_cell B3.out 0).trans rfl; have zs1 : wc.cell? ⟨gs, 1, none⟩ = some (.slice D1 x.f1.length e1) := (blk_cell BS.out 1).trans rfl; have zs2 : wc.cell? ⟨gs, 2, none⟩ = some (.slice D2 x.f2.length e2) := (blk_cell BS.out 2).trans rfl; have zs3 : wc.cell? ⟨gs, 3, none⟩ = some (.slice D3 x.f3.length e3) := (blk_cell BS.out 3).trans rfl; have zs4 : wc.cell? ⟨gs, 4, none⟩ = some (.slice D4 x.f4.length e4) := (blk_cell BS.out 4).trans rfl) | (go_at_call 54; refine (any_Person.calls 50 #[.pointer (some ⟨g1, 0, none⟩)] (personBad x.f0.length) (fun args w => enters_ Tryd.func50 (by kernel_rfl) rfl args w) D2 e2 x.f2 _ (Kd.C_below HR2.out HB.out) HC2.out (personBad_pred g1 _ _ B1.out)).mono ?_; rintro e wc ⟨rfl, hb⟩; clear zr zf z1 z2 z3 zs1 zs2 zs3 zs4; replace BS := Aside0.mk (blk_below BS.out hb); replace BR := Aside0.mk (blk_below BR.out hb); replace B1 := Aside0.mk (blk_below B1.out hb); replace B2 := Aside0.mk (blk_below B2.out hb); replace B3 := Aside0.mk (blk_below B3.out hb); replace HM := Aside0.mk (HM.out.below hb); replace HB := Aside0.mk (below_step HB.out hb); clear hb; have zr : wc.cell? ⟨gr, 0, none⟩ = some (.int .i64 0) := (blk_cell BR.out 0).trans rfl; have zf := blk_frozen BR.out 0; have z1 : wc.cell? ⟨g1, 0, none⟩ = some (.int .i64 x.f0.length) := (blk_cell B1.out 0).trans rfl; have z2 : wc.cell? ⟨g2, 0, none⟩ = some (.int .i64 x.f2.length) := (blk_cell B2.out 0).trans rfl; have z3 : wc.cell? ⟨g3, 0, none⟩ = some (.int .i64 x.f3.length) := (blk_cell B3.out 0).trans rfl; have zs1 : wc.cell? ⟨gs, 1, none⟩ = some (.slice D1 x.f1.length e1) := (blk_cell BS.out 1).trans rfl; have zs2 : wc.cell? ⟨gs, 2, none⟩ = some (.slice D2 x.f2.length e2) := (blk_cell BS.out 2).trans rfl; have zs3 : wc.cell? ⟨gs, 3, none⟩ = some (.slice D3 x.f3.length e3) := (blk_cell BS.out 3).trans rfl; have zs4 : wc.cell? ⟨gs, 4, none⟩ = some (.slice D4 x.f4.length e4) := (blk_cell BS.out 4).trans rfl) | (go_at_call 55; refine (any_Group.calls 51 #[] (groupBad) (fun args w => enters_ Tryd.func51 (by kernel_rfl) rfl args w) D3 e3 x.f3 _ (Kd.C_below HR3.out HB.out) HC3.out (groupBad_pred _)).mono ?_; rintro e wc ⟨rfl, hb⟩; clear zr zf z1 z2 z3 zs1 zs2 zs3 zs4; replace BS := Aside0.mk (blk_below BS.out hb); replace BR := Aside0.mk (blk_below BR.out hb); replace B1 := Aside0.mk (blk_below B1.out hb); replace B2 := Aside0.mk (blk_below B2.out hb); replace B3 := Aside0.mk (blk_below B3.out hb); replace HM := Aside0.mk (HM.out.below hb); replace HB := Aside0.mk (below_step HB.out hb); clear hb; have zr : wc.cell? ⟨gr, 0, none⟩ = some (.int .i64 0) := (blk_cell BR.out 0).trans rfl; have zf := blk_frozen BR.out 0; have z1 : wc.cell? ⟨g1, 0, none⟩ = some (.int .i64 x.f0.length) := (blk_cell B1.out 0).trans rfl; have z2 : wc.cell? ⟨g2, 0, none⟩ = some (.int .i64 x.f2.length) := (blk_cell B2.out 0).trans rfl; have z3 : wc.cell? ⟨g3, 0, none⟩ = some (.int .i64 x.f3.length) := (blk_cell B3.out 0).trans rfl; have zs1 : wc.cell? ⟨gs, 1, none⟩ = some (.slice D1 x.f1.length e1) := (blk_cell BS.out 1).trans rfl; have zs2 : wc.cell? ⟨gs, 2, none⟩ = some (.slice D2 x.f2.length e2) := (blk_cell BS.out 2).trans rfl; have zs3 : wc.cell? ⟨gs, 3, none⟩ = some (.slice D3 x.f3.length e3) := (blk_cell BS.out 3).trans rfl; have zs4 : wc.cell? ⟨gs, 4, none⟩ = some (.slice D4 x.f4.length e4) := (blk_cell BS.out 4).trans rfl) | (go_at_call 56; refine (any_Lesson.calls 52 #[.pointer (some ⟨g2, 0, none⟩), .pointer (some ⟨g3, 0, none⟩)] (lessonBad x.f2.length x.f3.length) (fun args w => enters_ Tryd.func52 (by kernel_rfl) rfl args w) D4 e4 x.f4 _ (Kd.C_below HR4.out HB.out) HC4.out (lessonBad_pred g2 g3 _ _ _ B2.out B3.out)).mono ?_; rintro e wc ⟨rfl, hb⟩; clear zr zf z1 z2 z3 zs1 zs2 zs3 zs4; replace BS := Aside0.mk (blk_below BS.out hb); replace BR := Aside0.mk (blk_below BR.out hb); replace B1 := Aside0.mk (blk_below B1.out hb); replace B2 := Aside0.mk (blk_below B2.out hb); replace B3 := Aside0.mk (blk_below B3.out hb); replace HM := Aside0.mk (HM.out.below hb); replace HB := Aside0.mk (below_step HB.out hb); clear hb; have zr : wc.cell? ⟨gr, 0, none⟩ = some (.int .i64 0) := (blk_cell BR.out 0).trans rfl; have zf := blk_frozen BR.out 0; have z1 : wc.cell? ⟨g1, 0, none⟩ = some (.int .i64 x.f0.length) := (blk_cell B1.out 0).trans rfl; have z2 : wc.cell? ⟨g2, 0, none⟩ = some (.int .i64 x.f2.length) := (blk_cell B2.out 0).trans rfl; have z3 : wc.cell? ⟨g3, 0, none⟩ = some (.int .i64 x.f3.length) := (blk_cell B3.out 0).trans rfl; have zs1 : wc.cell? ⟨gs, 1, none⟩ = some (.slice D1 x.f1.length e1) := (blk_cell BS.out 1).trans rfl; have zs2 : wc.cell? ⟨gs, 2, none⟩ = some (.slice D2 x.f2.length e2) := (blk_cell BS.out 2).trans rfl; have zs3 : wc.cell? ⟨gs, 3, none⟩ = some (.slice D3 x.f3.length e3) := (blk_cell BS.out 3).trans rfl; have zs4 : wc.cell? ⟨gs, 4, none⟩ = some (.slice D4 x.f4.length e4) := (blk_cell BS.out 4).trans rfl))
                    exact check_ret (by rw [WC.out]; rw [if_pos (by have := V3.out; omega)]) rfl (blk_put BR.out 0 _ rfl) (marks_set HM.out _ _) (below_set HB.out HGr.out)
                  have V3 := Aside0.mk h0
                  have n3 : decide ((64 : Int) < (x.f3.length : Int)) = false := decide_eq_false (by omega)
                  have n3' : decide (64 < x.f3.length) = false := decide_eq_false (by omega)
                  clear h0
                  by_cases h0 : 64 < x.f4.length
                  · have V4 := Aside0.mk h0
                    have n4 : decide ((64 : Int) < (x.f4.length : Int)) = true := decide_eq_true (by omega)
                    have n4' : decide (64 < x.f4.length) = true := decide_eq_true (by omega)
                    clear h0
                    go_wp2_with (first | (go_at_call 53; refine (any_Room.calls 48 #[.pointer (some ⟨g1, 0, none⟩)] (roomBad x.f0.length) (fun args w => enters_ Tryd.func48 (by kernel_rfl) rfl args w) D1 e1 x.f1 _ (Kd.C_below HR1.out HB.out) HC1.out (roomBad_pred g1 _ _ B1.out)).mono ?_; rintro e wc ⟨rfl, hb⟩; clear zr zf z1 z2 z3 zs1 zs2 zs3 zs4; replace BS := Aside0.mk (blk_below BS.out hb); replace BR := Aside0.mk (blk_below BR.out hb); replace B1 := Aside0.mk (blk_below B1.out hb); replace B2 := Aside0.mk (blk_below B2.out hb); replace B3 := Aside0.mk (blk_below B3.out hb); replace HM := Aside0.mk (HM.out.below hb); replace HB := Aside0.mk (below_step HB.out hb); clear hb; have zr : wc.cell? ⟨gr, 0, none⟩ = some (.int .i64 0) := (blk_cell BR.out 0).trans rfl; have zf := blk_frozen BR.out 0; have z1 : wc.cell? ⟨g1, 0, none⟩ = some (.int .i64 x.f0.length) := (blk_cell B1.out 0).trans rfl; have z2 : wc.cell? ⟨g2, 0, none⟩ = some (.int .i64 x.f2.length) := (blk_cell B2.out 0).trans rfl; have z3 : wc.cell? ⟨g3, 0, none⟩ = some (.int .i64 x.f3.length) := (blk_cell B3.out 0).trans rfl; have zs1 : wc.cell? ⟨gs, 1, none⟩ = some (.slice D1 x.f1.length e1) := (blk_cell BS.out 1).trans rfl; have zs2 : wc.cell? ⟨gs, 2, none⟩ = some (.slice D2 x.f2.length e2) := (blk_cell BS.out 2).trans rfl; have zs3 : wc.cell? ⟨gs, 3, none⟩ = some (.slice D3 x.f3.length e3) := (blk_cell BS.out 3).trans rfl; have zs4 : wc.cell? ⟨gs, 4, none⟩ = some (.slice D4 x.f4.length e4) := (blk_cell BS.out 4).trans rfl) | (go_at_call 54; refine (any_Person.calls 50 #[.pointer (some ⟨g1, 0, none⟩)] (personBad x.f0.length) (fun args w => enters_ Tryd.func50 (by kernel_rfl) rfl args w) D2 e2 x.f2 _ (Kd.C_below HR2.out HB.out) HC2.out (personBad_pred g1 _ _ B1.out)).mono ?_; rintro e wc ⟨rfl, hb⟩; clear zr zf z1 z2 z3 zs1 zs2 zs3 zs4; replace BS := Aside0.mk (blk_below BS.out hb); replace BR := Aside0.mk (blk_below BR.out hb); replace B1 := Aside0.mk (blk_below B1.out hb); replace B2 := Aside0.mk (blk_below B2.out hb); replace B3 := Aside0.mk (blk_below B3.out hb); replace HM := Aside0.mk (HM.out.below hb); replace HB := Aside0.mk (below_step HB.out hb); clear hb; have zr : wc.cell? ⟨gr, 0, none⟩ = some (.int .i64 0) := (blk_cell BR.out 0).trans rfl; have zf := blk_frozen BR.out 0; have z1 : wc.cell? ⟨g1, 0, none⟩ = some (.int .i64 x.f0.length) := (blk_cell B1.out 0).trans rfl; have z2 : wc.cell? ⟨g2, 0, none⟩ = some (.int .i64 x.f2.length) := (blk_cell B2.out 0).trans rfl; have z3 : wc.cell? ⟨g3, 0, none⟩ = some (.int .i64 x.f3.length) := (blk_cell B3.out 0).trans rfl; have zs1 : wc.cell? ⟨gs, 1, none⟩ = some (.slice D1 x.f1.length e1) := (blk_cell BS.out 1).trans rfl; have zs2 : wc.cell? ⟨gs, 2, none⟩ = some (.slice D2 x.f2.length e2) := (blk_cell BS.out 2).trans rfl; have zs3 : wc.cell? ⟨gs, 3, none⟩ = some (.slice D3 x.f3.length e3) := (blk_cell BS.out 3).trans rfl; have zs4 : wc.cell? ⟨gs, 4, none⟩ = some (.slice D4 x.f4.length e4) := (blk_cell BS.out 4).trans rfl) | (go_at_call 55; refine (any_Group.calls 51 #[] (groupBad) (fun args w => enters_ Tryd.func51 (by kernel_rfl) rfl args w) D3 e3 x.f3 _ (Kd.C_below HR3.out HB.out) HC3.out (groupBad_pred _)).mono ?_; rintro e wc ⟨rfl, hb⟩; clear zr zf z1 z2 z3 zs1 zs2 zs3 zs4; replace BS := Aside0.mk (blk_below BS.out hb); replace BR := Aside0.mk (blk_below BR.out hb); replace B1 := Aside0.mk (blk_below B1.out hb); replace B2 := Aside0.mk (blk_below B2.out hb); replace B3 := Aside0.mk (blk_below B3.out hb); replace HM := Aside0.mk (HM.out.below hb); replace HB := Aside0.mk (below_step HB.out hb); clear hb; have zr : wc.cell? ⟨gr, 0, none⟩ = some (.int .i64 0) := (blk_cell BR.out 0).trans rfl; have zf := blk_frozen BR.out 0; have z1 : wc.cell? ⟨g1, 0, none⟩ = some (.int .i64 x.f0.length) := (blk_cell B1.out 0).trans rfl; have z2 : wc.cell? ⟨g2, 0, none⟩ = some (.int .i64 x.f2.length) := (blk_cell B2.out 0).trans rfl; have z3 : wc.cell? ⟨g3, 0, none⟩ = some (.int .i64 x.f3.length) := (blk_cell B3.out 0).trans rfl; have zs1 : wc.cell? ⟨gs, 1, none⟩ = some (.slice D1 x.f1.length e1) := (blk_cell BS.out 1).trans rfl; have zs2 : wc.cell? ⟨gs, 2, none⟩ = some (.slice D2 x.f2.length e2) := (blk_cell BS.out 2).trans rfl; have zs3 : wc.cell? ⟨gs, 3, none⟩ = some (.slice D3 x.f3.length e3) := (blk_cell BS.out 3).trans rfl; have zs4 : wc.cell? ⟨gs, 4, none⟩ = some (.slice D4 x.f4.length e4) := (blk_cell BS.out 4).trans rfl) | (go_at_call 56; refine (any_Lesson.calls 52 #[.pointer (some ⟨g2, 0, none⟩), .pointer (some ⟨g3, 0, none⟩)] (lessonBad x.f2.length x.f3.length) (fun args w => enters_ Tryd.func52 (by kernel_rfl) rfl args w) D4 e4 x.f4 _ (Kd.C_below HR4.out HB.out) HC4.out (lessonBad_pred g2 g3 _ _ _ B2.out B3.out)).mono ?_; rintro e wc ⟨rfl, hb⟩; clear zr zf z1 z2 z3 zs1 zs2 zs3 zs4; replace BS := Aside0.mk (blk_below BS.out hb); replace BR := Aside0.mk (blk_below BR.out hb); replace B1 := Aside0.mk (blk_below B1.out hb); replace B2 := Aside0.mk (blk_below B2.out hb); replace B3 := Aside0.mk (blk_below B3.out hb); replace HM := Aside0.mk (HM.out.below hb); replace HB := Aside0.mk (below_step HB.out hb); clear hb; have zr : wc.cell? ⟨gr, 0, none⟩ = some (.int .i64 0) := (blk_cell BR.out 0).trans rfl; have zf := blk_frozen BR.out 0; have z1 : wc.cell? ⟨g1, 0, none⟩ = some (.int .i64 x.f0.length) := (blk_cell B1.out 0).trans rfl; have z2 : wc.cell? ⟨g2, 0, none⟩ = some (.int .i64 x.f2.length) := (blk_cell B2.out 0).trans rfl; have z3 : wc.cell? ⟨g3, 0, none⟩ = some (.int .i64 x.f3.length) := (blk_cell B3.out 0).trans rfl; have zs1 : wc.cell? ⟨gs, 1, none⟩ = some (.slice D1 x.f1.length e1) := (blk_cell BS.out 1).trans rfl; have zs2 : wc.cell? ⟨gs, 2, none⟩ = some (.slice D2 x.f2.length e2) := (blk_cell BS.out 2).trans rfl; have zs3 : wc.cell? ⟨gs, 3, none⟩ = some (.slice D3 x.f3.length e3) := (blk_cell BS.out 3).trans rfl; have zs4 : wc.cell? ⟨gs, 4, none⟩ = some (.slice D4 x.f4.length e4) := (blk_cell BS.out 4).trans rfl))
                    exact check_ret (by rw [WC.out]; rw [if_pos (by have := V4.out; omega)]) rfl (blk_put BR.out 0 _ rfl) (marks_set HM.out _ _) (below_set HB.out HGr.out)
                  have V4 := Aside0.mk h0
                  have n4 : decide ((64 : Int) < (x.f4.length : Int)) = false := decide_eq_false (by omega)
                  have n4' : decide (64 < x.f4.length) = false := decide_eq_false (by omega)
                  clear h0
                  go_wp2_with (first | (go_at_call 53; refine (any_Room.calls 48 #[.pointer (some ⟨g1, 0, none⟩)] (roomBad x.f0.length) (fun args w => enters_ Tryd.func48 (by kernel_rfl) rfl args w) D1 e1 x.f1 _ (Kd.C_below HR1.out HB.out) HC1.out (roomBad_pred g1 _ _ B1.out)).mono ?_; rintro e wc ⟨rfl, hb⟩; clear zr zf z1 z2 z3 zs1 zs2 zs3 zs4; replace BS := Aside0.mk (blk_below BS.out hb); replace BR := Aside0.mk (blk_below BR.out hb); replace B1 := Aside0.mk (blk_below B1.out hb); replace B2 := Aside0.mk (blk_below B2.out hb); replace B3 := Aside0.mk (blk_below B3.out hb); replace HM := Aside0.mk (HM.out.below hb); replace HB := Aside0.mk (below_step HB.out hb); clear hb; have zr : wc.cell? ⟨gr, 0, none⟩ = some (.int .i64 0) := (blk_cell BR.out 0).trans rfl; have zf := blk_frozen BR.out 0; have z1 : wc.cell? ⟨g1, 0, none⟩ = some (.int .i64 x.f0.length) := (blk_cell B1.out 0).trans rfl; have z2 : wc.cell? ⟨g2, 0, none⟩ = some (.int .i64 x.f2.length) := (blk_cell B2.out 0).trans rfl; have z3 : wc.cell? ⟨g3, 0, none⟩ = some (.int .i64 x.f3.length) := (blk_cell B3.out 0).trans rfl; have zs1 : wc.cell? ⟨gs, 1, none⟩ = some (.slice D1 x.f1.length e1) := (blk_cell BS.out 1).trans rfl; have zs2 : wc.cell? ⟨gs, 2, none⟩ = some (.slice D2 x.f2.length e2) := (blk_cell BS.out 2).trans rfl; have zs3 : wc.cell? ⟨gs, 3, none⟩ = some (.slice D3 x.f3.length e3) := (blk_cell BS.out 3).trans rfl; have zs4 : wc.cell? ⟨gs, 4, none⟩ = some (.slice D4 x.f4.length e4) := (blk_cell BS.out 4).trans rfl) | (go_at_call 54; refine (any_Person.calls 50 #[.pointer (some ⟨g1, 0, none⟩)] (personBad x.f0.length) (fun args w => enters_ Tryd.func50 (by kernel_rfl) rfl args w) D2 e2 x.f2 _ (Kd.C_below HR2.out HB.out) HC2.out (personBad_pred g1 _ _ B1.out)).mono ?_; rintro e wc ⟨rfl, hb⟩; clear zr zf z1 z2 z3 zs1 zs2 zs3 zs4; replace BS := Aside0.mk (blk_below BS.out hb); replace BR := Aside0.mk (blk_below BR.out hb); replace B1 := Aside0.mk (blk_below B1.out hb); replace B2 := Aside0.mk (blk_below B2.out hb); replace B3 := Aside0.mk (blk_below B3.out hb); replace HM := Aside0.mk (HM.out.below hb); replace HB := Aside0.mk (below_step HB.out hb); clear hb; have zr : wc.cell? ⟨gr, 0, none⟩ = some (.int .i64 0) := (blk_cell BR.out 0).trans rfl; have zf := blk_frozen BR.out 0; have z1 : wc.cell? ⟨g1, 0, none⟩ = some (.int .i64 x.f0.length) := (blk_cell B1.out 0).trans rfl; have z2 : wc.cell? ⟨g2, 0, none⟩ = some (.int .i64 x.f2.length) := (blk_cell B2.out 0).trans rfl; have z3 : wc.cell? ⟨g3, 0, none⟩ = some (.int .i64 x.f3.length) := (blk_cell B3.out 0).trans rfl; have zs1 : wc.cell? ⟨gs, 1, none⟩ = some (.slice D1 x.f1.length e1) := (blk_cell BS.out 1).trans rfl; have zs2 : wc.cell? ⟨gs, 2, none⟩ = some (.slice D2 x.f2.length e2) := (blk_cell BS.out 2).trans rfl; have zs3 : wc.cell? ⟨gs, 3, none⟩ = some (.slice D3 x.f3.length e3) := (blk_cell BS.out 3).trans rfl; have zs4 : wc.cell? ⟨gs, 4, none⟩ = some (.slice D4 x.f4.length e4) := (blk_cell BS.out 4).trans rfl) | (go_at_call 55; refine (any_Group.calls 51 #[] (groupBad) (fun args w => enters_ Tryd.func51 (by kernel_rfl) rfl args w) D3 e3 x.f3 _ (Kd.C_below HR3.out HB.out) HC3.out (groupBad_pred _)).mono ?_; rintro e wc ⟨rfl, hb⟩; clear zr zf z1 z2 z3 zs1 zs2 zs3 zs4; replace BS := Aside0.mk (blk_below BS.out hb); replace BR := Aside0.mk (blk_below BR.out hb); replace B1 := Aside0.mk (blk_below B1.out hb); replace B2 := Aside0.mk (blk_below B2.out hb); replace B3 := Aside0.mk (blk_below B3.out hb); replace HM := Aside0.mk (HM.out.below hb); replace HB := Aside0.mk (below_step HB.out hb); clear hb; have zr : wc.cell? ⟨gr, 0, none⟩ = some (.int .i64 0) := (blk_cell BR.out 0).trans rfl; have zf := blk_frozen BR.out 0; have z1 : wc.cell? ⟨g1, 0, none⟩ = some (.int .i64 x.f0.length) := (blk_cell B1.out 0).trans rfl; have z2 : wc.cell? ⟨g2, 0, none⟩ = some (.int .i64 x.f2.length) := (blk_cell B2.out 0).trans rfl; have z3 : wc.cell? ⟨g3, 0, none⟩ = some (.int .i64 x.f3.length) := (blk_cell B3.out 0).trans rfl; have zs1 : wc.cell? ⟨gs, 1, none⟩ = some (.slice D1 x.f1.length e1) := (blk_cell BS.out 1).trans rfl; have zs2 : wc.cell? ⟨gs, 2, none⟩ = some (.slice D2 x.f2.length e2) := (blk_cell BS.out 2).trans rfl; have zs3 : wc.cell? ⟨gs, 3, none⟩ = some (.slice D3 x.f3.length e3) := (blk_cell BS.out 3).trans rfl; have zs4 : wc.cell? ⟨gs, 4, none⟩ = some (.slice D4 x.f4.length e4) := (blk_cell BS.out 4).trans rfl) | (go_at_call 56; refine (any_Lesson.calls 52 #[.pointer (some ⟨g2, 0, none⟩), .pointer (some ⟨g3, 0, none⟩)] (lessonBad x.f2.length x.f3.length) (fun args w => enters_ Tryd.func52 (by kernel_rfl) rfl args w) D4 e4 x.f4 _ (Kd.C_below HR4.out HB.out) HC4.out (lessonBad_pred g2 g3 _ _ _ B2.out B3.out)).mono ?_; rintro e wc ⟨rfl, hb⟩; clear zr zf z1 z2 z3 zs1 zs2 zs3 zs4; replace BS := Aside0.mk (blk_below BS.out hb); replace BR := Aside0.mk (blk_below BR.out hb); replace B1 := Aside0.mk (blk_below B1.out hb); replace B2 := Aside0.mk (blk_below B2.out hb); replace B3 := Aside0.mk (blk_below B3.out hb); replace HM := Aside0.mk (HM.out.below hb); replace HB := Aside0.mk (below_step HB.out hb); clear hb; have zr : wc.cell? ⟨gr, 0, none⟩ = some (.int .i64 0) := (blk_cell BR.out 0).trans rfl; have zf := blk_frozen BR.out 0; have z1 : wc.cell? ⟨g1, 0, none⟩ = some (.int .i64 x.f0.length) := (blk_cell B1.out 0).trans rfl; have z2 : wc.cell? ⟨g2, 0, none⟩ = some (.int .i64 x.f2.length) := (blk_cell B2.out 0).trans rfl; have z3 : wc.cell? ⟨g3, 0, none⟩ = some (.int .i64 x.f3.length) := (blk_cell B3.out 0).trans rfl; have zs1 : wc.cell? ⟨gs, 1, none⟩ = some (.slice D1 x.f1.length e1) := (blk_cell BS.out 1).trans rfl; have zs2 : wc.cell? ⟨gs, 2, none⟩ = some (.slice D2 x.f2.length e2) := (blk_cell BS.out 2).trans rfl; have zs3 : wc.cell? ⟨gs, 3, none⟩ = some (.slice D3 x.f3.length e3) := (blk_cell BS.out 3).trans rfl; have zs4 : wc.cell? ⟨gs, 4, none⟩ = some (.slice D4 x.f4.length e4) := (blk_cell BS.out 4).trans rfl))
                  exact check_ret (by rw [WC.out]; rw [if_neg (by have := V0.out; have := V1.out; have := V2.out; have := V3.out; have := V4.out; omega)]) rfl (blk_put BR.out 0 _ rfl) (marks_set HM.out _ _) (below_set HB.out HGr.out)
      | succ k1 =>
        have d1 : decide (i < (x.f0.length : Int)) = true := decide_eq_true (by have := HI.out.2.1; omega)
        have p1 : (0 ≤ i) = True := eq_true HI.out.1
        have q1 : (i < (x.f0.length : Int)) = True := eq_true (by have := HI.out.2.1; omega)
        obtain ⟨ad, e_, z0, z1, z2⟩ := at_T87 (Kd.C_below HR0.out HB.out) i HI.out.1 (by have := HI.out.2.1; omega)
        subst e_
        have HD := Aside0.mk (show slotsOk [] x.f0 = slotsOk met ((rd_T87 x.f0 i) :: x.f0.drop (i + 1).toNat) by
          have hi : i.toNat < x.f0.length := by have := HI.out; omega
          rw [HI.out.2.2, List.drop_eq_getElem_cons hi]
          unfold rd_T87
          rw [List.getD_eq_getElem?_getD, List.getElem?_eq_getElem hi, show (i + 1).toNat = i.toNat + 1 by have := HI.out; omega]
          rfl)
        have EW := Aside0.mk (show wrap64 (i + 1) = i + 1 by have := HI.out; have := HL0.out; unfold wrap64; omega)
        generalize hrd : rd_T87 x.f0 i = sl at *
        clear hrd
        by_cases hm : (sl.f1, sl.f2) ∈ met
        · have HF := Aside0.mk (show (1 : Int) = checkS x by
            have hs : slotsOk [] x.f0 = false := by rw [HD.out, slotsOk, if_pos (Or.inl hm)]
            unfold checkS; rw [if_neg (fun h => h HNm.out), if_pos hs])
          have HM1 := Aside0.mk (show true = true ↔ (sl.f1, sl.f2) ∈ met from ⟨fun _ => hm, fun _ => rfl⟩)
          clear hm HD
          go_wp2_with (first | ((with_reducible refine gate_dst (N := 9) rfl ?_); refine var_event ?hg (N := 9) ?hd ?hg2 ?hn2 (z := #[.string ⟨#[]⟩, .int .i64 0, .int .i64 0]) (cs := #[.string sl.f0, .int .i64 sl.f1, .int .i64 sl.f2]) (T := 87) ?hr ?hs ?_; (case hg => rfl); (case hd => rfl); (case hg2 => rfl); (case hn2 => rfl); (case hr => first | (go_simp; done) | (go_simp; rfl)); (case hs => first | (go_simp; done) | (go_simp; rfl)); intro gx hgx w6 hbox hb; have zx1 : w6.cell? ⟨gx, 1, none⟩ = some (.int .i64 sl.f1) := (blk_cell hbox 1).trans rfl; have zx2 : w6.cell? ⟨gx, 2, none⟩ = some (.int .i64 sl.f2) := (blk_cell hbox 2).trans rfl; have BX := Aside0.mk hbox; have HB6 := Aside0.mk hb; clear hbox hb hgx z0 z1 z2) | ((with_reducible refine gate_dst (N := 10) rfl ?_); refine var_event ?hg (N := 10) ?hd ?hg2 ?hn2 (z := #[.int .i64 0, .int .i64 0]) (cs := #[.int .i64 sl.f1, .int .i64 sl.f2]) (T := 88) ?hr ?hs ?_; (case hg => rfl); (case hd => rfl); (case hg2 => rfl); (case hn2 => rfl); (case hr => first | (go_simp; done) | (go_simp; rfl)); (case hs => first | (go_simp; done) | (go_simp; rfl)); intro ga hga w7 hbox hb; clear zx1 zx2; have za0 : w7.cell? ⟨ga, 0, none⟩ = some (.int .i64 sl.f1) := (blk_cell hbox 0).trans rfl; have za1 : w7.cell? ⟨ga, 1, none⟩ = some (.int .i64 sl.f2) := (blk_cell hbox 1).trans rfl; have BA := Aside0.mk hbox; replace BX := Aside0.mk (blk_below BX.out hb); have zx1 : w7.cell? ⟨gx, 1, none⟩ = some (.int .i64 sl.f1) := (blk_cell BX.out 1).trans rfl; have zx2 : w7.cell? ⟨gx, 2, none⟩ = some (.int .i64 sl.f2) := (blk_cell BX.out 2).trans rfl; have HB7 := Aside0.mk (below_step HB6.out hb); have HT7 := Aside0.mk (HT.out.below HB7.out); have BR7 := Aside0.mk (blk_below BR.out HB7.out); have hzr : w7.cell? ⟨gr, 0, none⟩ = some (.int .i64 0) := (blk_cell BR7.out 0).trans rfl; have hzf := blk_frozen BR7.out 0; clear hbox hb hga) | ((with_reducible refine gate_dst (N := 53) rfl ?_); refine lookS_event (enc := pairV) (ks := met) (x := (sl.f1, sl.f2)) (g := gt) rfl (N := 53) rfl (t := 85) rfl pair_keys Tryd.underlying85 rfl HT7.out rfl rfl HM1.out ?_))
          exact check_ret HF.out rfl (blk_put BR7.out 0 _ rfl) (marks_set (HM.out.below HB7.out) _ _) (below_set (below_step HB.out HB7.out) HGr.out)
        · have HM1 := Aside0.mk (show false = true ↔ (sl.f1, sl.f2) ∈ met from ⟨fun h => by simp at h, fun h => absurd h hm⟩)
          have HMM := Aside0.mk hm
          clear hm
          cases hi1 : inB sl.f1 6 with
          | false =>
            have HF := Aside0.mk (show (1 : Int) = checkS x by
              have hs : slotsOk [] x.f0 = false := by rw [HD.out, slotsOk, if_pos (Or.inr (Or.inl hi1))]
              unfold checkS; rw [if_neg (fun h => h HNm.out), if_pos hs])
            clear HD
            go_wp2_with (first | ((with_reducible refine gate_dst (N := 9) rfl ?_); refine var_event ?hg (N := 9) ?hd ?hg2 ?hn2 (z := #[.string ⟨#[]⟩, .int .i64 0, .int .i64 0]) (cs := #[.string sl.f0, .int .i64 sl.f1, .int .i64 sl.f2]) (T := 87) ?hr ?hs ?_; (case hg => rfl); (case hd => rfl); (case hg2 => rfl); (case hn2 => rfl); (case hr => first | (go_simp; done) | (go_simp; rfl)); (case hs => first | (go_simp; done) | (go_simp; rfl)); intro gx hgx w6 hbox hb; have zx1 : w6.cell? ⟨gx, 1, none⟩ = some (.int .i64 sl.f1) := (blk_cell hbox 1).trans rfl; have zx2 : w6.cell? ⟨gx, 2, none⟩ = some (.int .i64 sl.f2) := (blk_cell hbox 2).trans rfl; have BX := Aside0.mk hbox; have HB6 := Aside0.mk hb; clear hbox hb hgx z0 z1 z2) | ((with_reducible refine gate_dst (N := 10) rfl ?_); refine var_event ?hg (N := 10) ?hd ?hg2 ?hn2 (z := #[.int .i64 0, .int .i64 0]) (cs := #[.int .i64 sl.f1, .int .i64 sl.f2]) (T := 88) ?hr ?hs ?_; (case hg => rfl); (case hd => rfl); (case hg2 => rfl); (case hn2 => rfl); (case hr => first | (go_simp; done) | (go_simp; rfl)); (case hs => first | (go_simp; done) | (go_simp; rfl)); intro ga hga w7 hbox hb; clear zx1 zx2; have za0 : w7.cell? ⟨ga, 0, none⟩ = some (.int .i64 sl.f1) := (blk_cell hbox 0).trans rfl; have za1 : w7.cell? ⟨ga, 1, none⟩ = some (.int .i64 sl.f2) := (blk_cell hbox 1).trans rfl; have BA := Aside0.mk hbox; replace BX := Aside0.mk (blk_below BX.out hb); have zx1 : w7.cell? ⟨gx, 1, none⟩ = some (.int .i64 sl.f1) := (blk_cell BX.out 1).trans rfl; have zx2 : w7.cell? ⟨gx, 2, none⟩ = some (.int .i64 sl.f2) := (blk_cell BX.out 2).trans rfl; have HB7 := Aside0.mk (below_step HB6.out hb); have HT7 := Aside0.mk (HT.out.below HB7.out); have BR7 := Aside0.mk (blk_below BR.out HB7.out); have hzr : w7.cell? ⟨gr, 0, none⟩ = some (.int .i64 0) := (blk_cell BR7.out 0).trans rfl; have hzf := blk_frozen BR7.out 0; clear hbox hb hga) | ((with_reducible refine gate_dst (N := 53) rfl ?_); refine lookS_event (enc := pairV) (ks := met) (x := (sl.f1, sl.f2)) (g := gt) rfl (N := 53) rfl (t := 85) rfl pair_keys Tryd.underlying85 rfl HT7.out rfl rfl HM1.out ?_) | (go_at_call 47; refine (school_within.calls _ _ _ _ (within_eq _ _)).mono ?_; rintro e w8 ⟨rfl, hdr⟩; have hb := drawn_below hdr; clear hdr; (try clear zx1); clear zx2 hzr hzf za0 za1; replace HB7 := Aside0.mk (below_step HB7.out hb); replace HT7 := Aside0.mk (HT7.out.below hb); replace BX := Aside0.mk (blk_below BX.out hb); replace BA := Aside0.mk (blk_below BA.out hb); replace BR7 := Aside0.mk (blk_below BR7.out hb); have zx2 : w8.cell? ⟨gx, 2, none⟩ = some (.int .i64 sl.f2) := (blk_cell BX.out 2).trans rfl; have hzr : w8.cell? ⟨gr, 0, none⟩ = some (.int .i64 0) := (blk_cell BR7.out 0).trans rfl; have hzf := blk_frozen BR7.out 0; have za0 : w8.cell? ⟨ga, 0, none⟩ = some (.int .i64 sl.f1) := (blk_cell BA.out 0).trans rfl; have za1 : w8.cell? ⟨ga, 1, none⟩ = some (.int .i64 sl.f2) := (blk_cell BA.out 1).trans rfl; clear hb))
            exact check_ret HF.out rfl (blk_put BR7.out 0 _ rfl) (marks_set (HM.out.below HB7.out) _ _) (below_set (below_step HB.out HB7.out) HGr.out)
          | true =>
            cases hi2 : inB sl.f2 11 with
            | false =>
              have HF := Aside0.mk (show (1 : Int) = checkS x by
                have hs : slotsOk [] x.f0 = false := by rw [HD.out, slotsOk, if_pos (Or.inr (Or.inr hi2))]
                unfold checkS; rw [if_neg (fun h => h HNm.out), if_pos hs])
              clear HD
              go_wp2_with (first | ((with_reducible refine gate_dst (N := 9) rfl ?_); refine var_event ?hg (N := 9) ?hd ?hg2 ?hn2 (z := #[.string ⟨#[]⟩, .int .i64 0, .int .i64 0]) (cs := #[.string sl.f0, .int .i64 sl.f1, .int .i64 sl.f2]) (T := 87) ?hr ?hs ?_; (case hg => rfl); (case hd => rfl); (case hg2 => rfl); (case hn2 => rfl); (case hr => first | (go_simp; done) | (go_simp; rfl)); (case hs => first | (go_simp; done) | (go_simp; rfl)); intro gx hgx w6 hbox hb; have zx1 : w6.cell? ⟨gx, 1, none⟩ = some (.int .i64 sl.f1) := (blk_cell hbox 1).trans rfl; have zx2 : w6.cell? ⟨gx, 2, none⟩ = some (.int .i64 sl.f2) := (blk_cell hbox 2).trans rfl; have BX := Aside0.mk hbox; have HB6 := Aside0.mk hb; clear hbox hb hgx z0 z1 z2) | ((with_reducible refine gate_dst (N := 10) rfl ?_); refine var_event ?hg (N := 10) ?hd ?hg2 ?hn2 (z := #[.int .i64 0, .int .i64 0]) (cs := #[.int .i64 sl.f1, .int .i64 sl.f2]) (T := 88) ?hr ?hs ?_; (case hg => rfl); (case hd => rfl); (case hg2 => rfl); (case hn2 => rfl); (case hr => first | (go_simp; done) | (go_simp; rfl)); (case hs => first | (go_simp; done) | (go_simp; rfl)); intro ga hga w7 hbox hb; clear zx1 zx2; have za0 : w7.cell? ⟨ga, 0, none⟩ = some (.int .i64 sl.f1) := (blk_cell hbox 0).trans rfl; have za1 : w7.cell? ⟨ga, 1, none⟩ = some (.int .i64 sl.f2) := (blk_cell hbox 1).trans rfl; have BA := Aside0.mk hbox; replace BX := Aside0.mk (blk_below BX.out hb); have zx1 : w7.cell? ⟨gx, 1, none⟩ = some (.int .i64 sl.f1) := (blk_cell BX.out 1).trans rfl; have zx2 : w7.cell? ⟨gx, 2, none⟩ = some (.int .i64 sl.f2) := (blk_cell BX.out 2).trans rfl; have HB7 := Aside0.mk (below_step HB6.out hb); have HT7 := Aside0.mk (HT.out.below HB7.out); have BR7 := Aside0.mk (blk_below BR.out HB7.out); have hzr : w7.cell? ⟨gr, 0, none⟩ = some (.int .i64 0) := (blk_cell BR7.out 0).trans rfl; have hzf := blk_frozen BR7.out 0; clear hbox hb hga) | ((with_reducible refine gate_dst (N := 53) rfl ?_); refine lookS_event (enc := pairV) (ks := met) (x := (sl.f1, sl.f2)) (g := gt) rfl (N := 53) rfl (t := 85) rfl pair_keys Tryd.underlying85 rfl HT7.out rfl rfl HM1.out ?_) | (go_at_call 47; refine (school_within.calls _ _ _ _ (within_eq _ _)).mono ?_; rintro e w8 ⟨rfl, hdr⟩; have hb := drawn_below hdr; clear hdr; (try clear zx1); clear zx2 hzr hzf za0 za1; replace HB7 := Aside0.mk (below_step HB7.out hb); replace HT7 := Aside0.mk (HT7.out.below hb); replace BX := Aside0.mk (blk_below BX.out hb); replace BA := Aside0.mk (blk_below BA.out hb); replace BR7 := Aside0.mk (blk_below BR7.out hb); have zx2 : w8.cell? ⟨gx, 2, none⟩ = some (.int .i64 sl.f2) := (blk_cell BX.out 2).trans rfl; have hzr : w8.cell? ⟨gr, 0, none⟩ = some (.int .i64 0) := (blk_cell BR7.out 0).trans rfl; have hzf := blk_frozen BR7.out 0; have za0 : w8.cell? ⟨ga, 0, none⟩ = some (.int .i64 sl.f1) := (blk_cell BA.out 0).trans rfl; have za1 : w8.cell? ⟨ga, 1, none⟩ = some (.int .i64 sl.f2) := (blk_cell BA.out 1).trans rfl; clear hb))
              exact check_ret HF.out rfl (blk_put BR7.out 0 _ rfl) (marks_set (HM.out.below HB7.out) _ _) (below_set (below_step HB.out HB7.out) HGr.out)
            | true =>
              have HF := Aside0.mk (show slotsOk [] x.f0 = slotsOk (met ++ [(sl.f1, sl.f2)]) (x.f0.drop (i + 1).toNat) by
                rw [HD.out, slotsOk, if_neg (by simp only [hi1, hi2]; rintro (h | h | h); exact HMM.out h; cases h; cases h)])
              clear HD
              go_wp2_with (first | ((with_reducible refine gate_dst (N := 9) rfl ?_); refine var_event ?hg (N := 9) ?hd ?hg2 ?hn2 (z := #[.string ⟨#[]⟩, .int .i64 0, .int .i64 0]) (cs := #[.string sl.f0, .int .i64 sl.f1, .int .i64 sl.f2]) (T := 87) ?hr ?hs ?_; (case hg => rfl); (case hd => rfl); (case hg2 => rfl); (case hn2 => rfl); (case hr => first | (go_simp; done) | (go_simp; rfl)); (case hs => first | (go_simp; done) | (go_simp; rfl)); intro gx hgx w6 hbox hb; have zx1 : w6.cell? ⟨gx, 1, none⟩ = some (.int .i64 sl.f1) := (blk_cell hbox 1).trans rfl; have zx2 : w6.cell? ⟨gx, 2, none⟩ = some (.int .i64 sl.f2) := (blk_cell hbox 2).trans rfl; have BX := Aside0.mk hbox; have HB6 := Aside0.mk hb; clear hbox hb hgx z0 z1 z2) | ((with_reducible refine gate_dst (N := 10) rfl ?_); refine var_event ?hg (N := 10) ?hd ?hg2 ?hn2 (z := #[.int .i64 0, .int .i64 0]) (cs := #[.int .i64 sl.f1, .int .i64 sl.f2]) (T := 88) ?hr ?hs ?_; (case hg => rfl); (case hd => rfl); (case hg2 => rfl); (case hn2 => rfl); (case hr => first | (go_simp; done) | (go_simp; rfl)); (case hs => first | (go_simp; done) | (go_simp; rfl)); intro ga hga w7 hbox hb; clear zx1 zx2; have za0 : w7.cell? ⟨ga, 0, none⟩ = some (.int .i64 sl.f1) := (blk_cell hbox 0).trans rfl; have za1 : w7.cell? ⟨ga, 1, none⟩ = some (.int .i64 sl.f2) := (blk_cell hbox 1).trans rfl; have BA := Aside0.mk hbox; replace BX := Aside0.mk (blk_below BX.out hb); have zx1 : w7.cell? ⟨gx, 1, none⟩ = some (.int .i64 sl.f1) := (blk_cell BX.out 1).trans rfl; have zx2 : w7.cell? ⟨gx, 2, none⟩ = some (.int .i64 sl.f2) := (blk_cell BX.out 2).trans rfl; have HB7 := Aside0.mk (below_step HB6.out hb); have HT7 := Aside0.mk (HT.out.below HB7.out); have BR7 := Aside0.mk (blk_below BR.out HB7.out); have hzr : w7.cell? ⟨gr, 0, none⟩ = some (.int .i64 0) := (blk_cell BR7.out 0).trans rfl; have hzf := blk_frozen BR7.out 0; clear hbox hb hga) | ((with_reducible refine gate_dst (N := 53) rfl ?_); refine lookS_event (enc := pairV) (ks := met) (x := (sl.f1, sl.f2)) (g := gt) rfl (N := 53) rfl (t := 85) rfl pair_keys Tryd.underlying85 rfl HT7.out rfl rfl HM1.out ?_) | (go_at_call 47; refine (school_within.calls _ _ _ _ (within_eq _ _)).mono ?_; rintro e w8 ⟨rfl, hdr⟩; have hb := drawn_below hdr; clear hdr; (try clear zx1); clear zx2 hzr hzf za0 za1; replace HB7 := Aside0.mk (below_step HB7.out hb); replace HT7 := Aside0.mk (HT7.out.below hb); replace BX := Aside0.mk (blk_below BX.out hb); replace BA := Aside0.mk (blk_below BA.out hb); replace BR7 := Aside0.mk (blk_below BR7.out hb); have zx2 : w8.cell? ⟨gx, 2, none⟩ = some (.int .i64 sl.f2) := (blk_cell BX.out 2).trans rfl; have hzr : w8.cell? ⟨gr, 0, none⟩ = some (.int .i64 0) := (blk_cell BR7.out 0).trans rfl; have hzf := blk_frozen BR7.out 0; have za0 : w8.cell? ⟨ga, 0, none⟩ = some (.int .i64 sl.f1) := (blk_cell BA.out 0).trans rfl; have za1 : w8.cell? ⟨ga, 1, none⟩ = some (.int .i64 sl.f2) := (blk_cell BA.out 1).trans rfl; clear hb) | ((with_reducible refine gate_ (op := .mapUpdate 85 (.tmp 66) (.tmp 67) (.const (.bool true))) rfl ?_); refine putS_event (enc := pairV) (ks := met) (x := (sl.f1, sl.f2)) (g := gt) rfl rfl rfl pair_keys Tryd.underlying85 HT7.out rfl rfl rfl HMM.out ?_; intro w9 hs9 hg9; have HS9 := Aside0.mk hs9; have HG9 := Aside0.mk hg9; clear hs9 hg9 zx2 hzr hzf za0 za1))
              go_roundg k1
              case measure => omega
              case rel =>
                have HBw := below_step HB.out HB7.out
                refine ⟨wrap64 (i + 1), met ++ [(sl.f1, sl.f2)], rfl, by rw [EW.out]; exact ⟨by have := HI.out; omega, by have := HI.out; omega, HF.out⟩, ⟨HBw.grown HG9.out HBw.size (by intro k e; cases e; exact HGT.out)⟩, ⟨(HM.out.below HB7.out).grown HG9.out (by obtain ⟨es, clk, hb', _⟩ := HT7.out; rw [hb']; simp)⟩, ⟨blk_grown (blk_below BS.out HB7.out) HG9.out (by intro e; cases e; exact HGTN.out.1 rfl)⟩, ⟨blk_grown BR7.out HG9.out (by intro e; cases e; exact HGTN.out.2 rfl)⟩, HS9⟩
  | succ k1 =>
    have d1 : decide (sort ≤ 5) = true := decide_eq_true (by have := HS.out; omega)
    have HV1 := Aside0.mk (HV.out.below HB.out)
    go_wp2_with (first | ((with_reducible refine gate_dst (N := 22) rfl ?_); refine mapS_event (enc := Value.string) ?hg (N := 22) ?hd (t := 80) ?hop ?_; (case hg => rfl); (case hd => rfl); (case hop => rfl); intro g hgg w3 hset hb; have ST := Aside0.mk hset; have HG := Aside0.mk (show w0.heap.size ≤ g from hgg ▸ HB.out.size); have HGN := Aside0.mk (show g ≠ gs ∧ g ≠ gr from ⟨fun e => by have := blk_lt BS.out; omega, fun e => by have := blk_lt BR.out; omega⟩); replace BS := Aside0.mk (blk_below BS.out hb); replace BR := Aside0.mk (blk_below BR.out hb); replace HM := Aside0.mk (HM.out.below hb); replace HB := Aside0.mk (below_step HB.out hb); clear hset hb hgg; have zb0 : (w3.alloc (.cells #[.map (some g)] 80)).cell? ⟨gs, 0, none⟩ = some (.slice D0 x.f0.length e0) := (blk_cell (blk_alloc BS.out _) 0).trans rfl; have zb1 : (w3.alloc (.cells #[.map (some g)] 80)).cell? ⟨gs, 1, none⟩ = some (.slice D1 x.f1.length e1) := (blk_cell (blk_alloc BS.out _) 1).trans rfl; have zb2 : (w3.alloc (.cells #[.map (some g)] 80)).cell? ⟨gs, 2, none⟩ = some (.slice D2 x.f2.length e2) := (blk_cell (blk_alloc BS.out _) 2).trans rfl; have zb3 : (w3.alloc (.cells #[.map (some g)] 80)).cell? ⟨gs, 3, none⟩ = some (.slice D3 x.f3.length e3) := (blk_cell (blk_alloc BS.out _) 3).trans rfl; have zb4 : (w3.alloc (.cells #[.map (some g)] 80)).cell? ⟨gs, 4, none⟩ = some (.slice D4 x.f4.length e4) := (blk_cell (blk_alloc BS.out _) 4).trans rfl) | (go_at_call 45; refine (elements_calls D0 D1 D2 D3 D4 e0 e1 e2 e3 e4 x sort _).mono ?_; rintro e w5 ⟨rfl, hw5⟩; have HE := Aside0.mk hw5; clear hw5))
    have hb5 : Below w3.heap.size w3 w5 := by rw [HE.out]; exact below_alloc (below_alloc (below_alloc (Below.refl _ _) _) _) _
    have BM := Aside0.mk (show w5.heap[w3.heap.size]? = some (.cells #[.map (some g)] 80 (0, 0)) by rw [HE.out]; exact blk_alloc (blk_alloc (blk_new _ _) _) _)
    have BC := Aside0.mk (show w5.heap[w3.heap.size + 1]? = some (.cells #[.slice D0 x.f0.length e0, .slice D1 x.f1.length e1, .slice D2 x.f2.length e2, .slice D3 x.f3.length e3, .slice D4 x.f4.length e4] 45 (0, 0)) by
      rw [HE.out]
      have := blk_alloc (blk_new (w3.alloc (.cells #[.map (some g)] 80)) (.cells #[.slice D0 x.f0.length e0, .slice D1 x.f1.length e1, .slice D2 x.f2.length e2, .slice D3 x.f3.length e3, .slice D4 x.f4.length e4] 45)) (.cells #[.int .i64 sort] 3)
      simpa using this)
    have BT := Aside0.mk (show w5.heap[w3.heap.size + 1 + 1]? = some (.cells #[.int .i64 sort] 3 (0, 0)) by
      rw [HE.out]
      have := blk_new ((w3.alloc (.cells #[.map (some g)] 80)).alloc (.cells #[.slice D0 x.f0.length e0, .slice D1 x.f1.length e1, .slice D2 x.f2.length e2, .slice D3 x.f3.length e3, .slice D4 x.f4.length e4] 45)) (.cells #[.int .i64 sort] 3)
      simpa using this)
    have HGM := Aside0.mk (show w0.heap.size ≤ w3.heap.size from HB.out.size)
    have HGM2 := Aside0.mk (show g ≠ w3.heap.size by have := ST.out.lt; omega)
    have HGM3 := Aside0.mk (show gr ≠ w3.heap.size by have := blk_lt BR.out; omega)
    replace ST := Aside0.mk (ST.out.below hb5)
    replace BS := Aside0.mk (blk_below BS.out hb5)
    replace BR := Aside0.mk (blk_below BR.out hb5)
    replace HM := Aside0.mk (HM.out.below hb5)
    replace HB := Aside0.mk (below_step HB.out hb5)
    clear hb5 HE HV1
    generalize w3.heap.size = gm at *
    have hN := HN.out sort
    have HLT := Aside0.mk ST.out.lt
    have hw5 : w0.heap.size ≤ w5.heap.size := HB.out.size
    refine wpIn_wide.1 (wpIn_rangeFunc_E (n := 9) rfl (by decide) (gf := 62) (lb := #[.pointer (some ⟨gm + 1 + 1, 0, none⟩), .pointer (some ⟨gm + 1, 0, none⟩)]) rfl trivial (fun args w => enters_ Tryd.func62 (by kernel_rfl) rfl args w)
      (elements1_any 8 (by decide) (gm + 1) (gm + 1 + 1) D0 D1 D2 D3 D4 e0 e1 e2 e3 e4 x sort HS.out.1 (by have := HS.out; omega) w0 w5 HR0.out HR1.out HR2.out HR3.out HR4.out HB.out BC.out BT.out)
      (fun h k => h.trans k) (fun V l o o' hl ho _ _ => (Below.refl _ V).grown (grownBy_putObj' V l o') (by have := (Array.getElem?_eq_some_iff.1 ho).1; omega) (fun k e => by cases e; omega)) (fun _ A B h => ⟨h.size, fun k o hk _ => blk_below hk h⟩) (Below.refl _ _) (fun _ => rfl)
      (CInv w0 w5 g gr (namesOf x sort)) (fun c _ W => c = .ret ∧ CEnd w0 w5 g gr (namesOf x sort) W) (fun pre A B hi h => hi.below h) (CInv.own w0 w5 g gr _ hw5 ST.out.lt) (fun c pre A B row hi hg hr => ⟨hi.1, CEnd.own w0 w5 g gr _ hw5 pre A B row hi.2 hg hr⟩)
      ⟨HB.out, Kept.refl _ _, ST.out, fun rest e => by rw [e]; rfl⟩
      (fun y => { tmps := #[(.agg #[.slice D0 x.f0.length e0, .slice D1 x.f1.length e1, .slice D2 x.f2.length e2, .slice D3 x.f3.length e3, .slice D4 x.f4.length e4]), .pointer (some ⟨gs, 0, none⟩), .pointer (some ⟨gr, 0, none⟩), .int .i64 sort, .pointer (some ⟨gm, 0, none⟩), undef, .string y.2, undef, undef, undef, undef, undef, undef, undef, undef, undef, undef, undef, .int .i64 sort, .bool true, u20, u21, .map (some g), (.agg #[.slice D0 x.f0.length e0, .slice D1 x.f1.length e1, .slice D2 x.f2.length e2, .slice D3 x.f3.length e3, .slice D4 x.f4.length e4]), .int .i64 sort, .func (.func 62) #[] #[.pointer (some ⟨gm + 1 + 1, 0, none⟩), .pointer (some ⟨gm + 1, 0, none⟩)], .int .i64 y.1, .string y.2, u28, u29, u30, u31, u32, u33, u34, u35, u36, u37, undef, undef, undef, undef, undef, undef, undef, undef, undef, undef, undef, undef, undef, undef, undef, undef, undef, undef, undef, undef, undef, undef, undef, undef, undef, undef, undef, undef, undef, undef, undef, undef, undef, undef, undef, undef, undef, undef, undef, undef, undef, undef, undef, undef, undef, undef, undef, undef, undef, undef, undef, undef, undef, undef, undef, undef, undef, undef, undef, undef, undef, undef, undef, undef, undef, undef, undef, undef, undef, undef, undef, undef, undef, undef, undef, undef, undef, undef, undef, undef, undef, undef, undef, undef, undef, undef, undef, undef, undef, undef, undef, undef, undef, undef, undef, undef, undef, undef], defers := [] }) ?assign ?body ?done ?stop)
    case assign =>
      intro l y V K hK
      gi_wp2
      exact hK
    case body =>
      intro l pre y V hi hpre
      obtain ⟨hB, hKp, hST, hE⟩ := hi
      have HBV := Aside0.mk hB
      have HKV := Aside0.mk hKp
      have HSV := Aside0.mk hST
      obtain ⟨rest, hrest⟩ := hpre
      have hE1 := hE (y :: rest) (by rw [← hrest]; simp)
      simp only [List.map_cons, namesOk] at hE1
      have HE := Aside0.mk hE
      have HRest := Aside0.mk hrest
      have HSz := Aside0.mk (hN y (by rw [← hrest]; simp))
      have hzm : V.cell? ⟨gm, 0, none⟩ = some (.map (some g)) := (blk_cell (hKp.others (by simp only [List.mem_singleton]; exact Ne.symm HGM2.out) BM.out) 0).trans rfl
      have hzf := blk_frozen (hKp.others (g := gr) (by simp only [List.mem_singleton]; exact Ne.symm HGN.out.2) BR.out) 0
      have HBR := Aside0.mk (hKp.others (g := gr) (by simp only [List.mem_singleton]; exact Ne.symm HGN.out.2) BR.out)
      have HBM := Aside0.mk (hKp.others (g := gm) (by simp only [List.mem_singleton]; exact Ne.symm HGM2.out) BM.out)
      have hzr : V.cell? ⟨gr, 0, none⟩ = some (.int .i64 0) := (blk_cell HBR.out 0).trans rfl
      clear hB hKp hST hE hrest
      by_cases hm : y.2 ∈ pre.map (·.2)
      · have HF := Aside0.mk (show namesOk [] ((namesOf x sort).map (·.2)) = false by rw [hE1, if_pos (Or.inl hm)])
        have HM1 := Aside0.mk (show true = true ↔ y.2 ∈ pre.map (·.2) from ⟨fun _ => hm, fun _ => rfl⟩)
        clear hE1 hm
        gi_wp2_with (first | ((with_reducible refine gate_dstIn (N := 30) rfl ?_); refine lookS_eventIn (enc := Value.string) (ks := pre.map (·.2)) (x := y.2) (g := g) rfl (t := 80) rfl string_keys Tryd.underlying80 rfl HSV.out rfl rfl HM1.out ?_) | (refine ⟨trivial, ?_⟩))
        refine ⟨⟨by simp, fun k o _ hk ho => ?_⟩, ?_, rfl, ?_⟩
        · exact (KeepsOthers.setCell V _ _).same k o hk ho
        · exact (Below.refl _ V).setCell HGr.out _
        · exact ⟨below_set HBV.out HGr.out, (HKV.out.mono (by simp)).set _ _ (by simp), blk_put HBR.out 0 _ rfl, HF.out⟩
      · have HM1 := Aside0.mk (show false = true ↔ y.2 ∈ pre.map (·.2) from ⟨fun h => by simp at h, fun h => absurd h hm⟩)
        have HC1 := Aside0.mk (named_calls y.2 HSz.out V (HV.out.below HBV.out))
        have HMM := Aside0.mk hm
        clear hm
        cases hnb : namedB y.2 with
        | false =>
          have HF := Aside0.mk (show namesOk [] ((namesOf x sort).map (·.2)) = false by rw [hE1, if_pos (Or.inr hnb)])
          rw [hnb] at HC1
          clear hE1
          gi_wp2_with (first | ((with_reducible refine gate_dstIn (N := 30) rfl ?_); refine lookS_eventIn (enc := Value.string) (ks := pre.map (·.2)) (x := y.2) (g := g) rfl (t := 80) rfl string_keys Tryd.underlying80 rfl HSV.out rfl rfl HM1.out ?_) | (refine ⟨trivial, ?_⟩; gi_at_call 46; refine (callsIn_wide.2 HC1.out).mono ?_; rintro e V2 ⟨rfl, hb⟩; have HB2 := Aside0.mk hb; replace HBR := Aside0.mk (blk_below HBR.out hb); clear hb hzf hzm hzr; have hzf := blk_frozen HBR.out 0; have hzr : V2.cell? ⟨gr, 0, none⟩ = some (.int .i64 0) := (blk_cell HBR.out 0).trans rfl))
          have HB3 := Aside0.mk (show Below w0.heap.size V V2 from HB2.out.mono (below_size HBV.out))
          refine ⟨⟨by simpa [World.setCell] using HB2.out.size, fun k o _ hk ho => ?_⟩, ?_, rfl, ?_⟩
          · exact (KeepsOthers.setCell V2 _ _).same k o (blk_below hk HB2.out) ho
          · exact HB3.out.setCell HGr.out _
          · exact ⟨below_set (below_step HBV.out HB2.out) HGr.out, ((HKV.out.mono (by simp)).below HB2.out).set _ _ (by simp), blk_put HBR.out 0 _ rfl, HF.out⟩
        | true =>
          have HF := Aside0.mk (show namesOk [] ((namesOf x sort).map (·.2)) = namesOk (pre.map (·.2) ++ [y.2]) (rest.map (·.2)) by rw [hE1, if_neg (by simp only [hnb]; rintro (h | h); exact HMM.out h; cases h)])
          rw [hnb] at HC1
          clear hE1 hnb
          gi_wp2_with (first | ((with_reducible refine gate_dstIn (N := 30) rfl ?_); refine lookS_eventIn (enc := Value.string) (ks := pre.map (·.2)) (x := y.2) (g := g) rfl (t := 80) rfl string_keys Tryd.underlying80 rfl HSV.out rfl rfl HM1.out ?_) | (refine ⟨trivial, ?_⟩; gi_at_call 46; refine (callsIn_wide.2 HC1.out).mono ?_; rintro e V2 ⟨rfl, hb⟩; have HB2 := Aside0.mk hb; have BMV := Aside0.mk (blk_below HBM.out hb); have HSV2 := Aside0.mk (HSV.out.below hb); clear hb hzm; have hzm : V2.cell? ⟨gm, 0, none⟩ = some (.map (some g)) := (blk_cell BMV.out 0).trans rfl) | ((with_reducible refine gate_opIn (op := .mapUpdate 80 (.tmp 36) (.tmp 37) (.const (.bool true))) rfl ?_); refine putS_eventIn (enc := Value.string) (ks := pre.map (·.2)) (x := y.2) (g := g) rfl rfl rfl string_keys Tryd.underlying80 HSV2.out rfl rfl rfl HMM.out ?_; intro V3 hs3 hg3; have HS3 := Aside0.mk hs3; have HG3 := Aside0.mk hg3; clear hs3 hg3))
          refine ⟨KeepsFrom.trans ⟨HB2.out.size, fun k o _ hk _ => blk_below hk HB2.out⟩ (KeepsFrom.of_grownBy HG3.out (by intro j e; cases e; exact HLT.out)), ?_, ?_⟩
          · exact (HB2.out.mono (below_size HBV.out)).grown HG3.out (Nat.le_trans (below_size HBV.out) HB2.out.size) (by intro k e; cases e; exact HG.out)
          · refine ⟨(below_step HBV.out HB2.out).grown HG3.out (Nat.le_trans (below_size HBV.out) HB2.out.size) (by intro k e; cases e; exact HG.out), (HKV.out.below HB2.out).grown HG3.out (by intro r e; cases e; exact .inl (by simp)), by simpa using HS3.out, ?_⟩
            intro rest' hr'
            have : rest' = rest := by
              have h1 := HRest.out
              rw [hr'] at h1
              simpa using h1.symm
            subst this
            rw [HF.out]; simp
    case done =>
      intro D V hD hi hK
      obtain ⟨hB, hKp, hST, hE⟩ := hi
      have HF := Aside0.mk (show namesOk [] ((namesOf x sort).map (·.2)) = true from hE [] (by simp))
      have HK := Aside0.mk (show Marks w0.heap.size ({ target := .collected D, args := #[] } :: ds) V from by
        obtain ⟨Ds, e1, e2, e3⟩ := HM.out
        refine ⟨D :: Ds, by rw [e1]; rfl, List.nodup_cons.2 ⟨fun hD' => ?_, e2⟩, fun D' hD' => ?_⟩
        · have := (Array.getElem?_eq_some_iff.1 (e3 D hD').2).1; omega
        · rcases List.mem_cons.1 hD' with rfl | hD'
          · exact ⟨Nat.le_trans hw5 hD, hK⟩
          · refine ⟨(e3 D' hD').1, hKp.others ?_ (e3 D' hD').2⟩
            simp only [List.mem_singleton]
            rintro rfl
            obtain ⟨es, clk, hb', _⟩ := ST.out
            rw [(e3 D' hD').2] at hb'
            cases hb')
      have HBV := Aside0.mk hB
      have BSV := Aside0.mk (hKp.others (g := gs) (by simp only [List.mem_singleton]; exact Ne.symm HGN.out.1) BS.out)
      have BRV := Aside0.mk (hKp.others (g := gr) (by simp only [List.mem_singleton]; exact Ne.symm HGN.out.2) BR.out)
      have EW := Aside0.mk (show wrap64 (sort + 1) = sort + 1 by have := HS.out; unfold wrap64; omega)
      clear hB hKp hST hE hK hD
      go_wp2
      refine Handed.intro k1 (by omega) (hJ _ _ _ ?_)
      refine ⟨_, _, _, _, _, _, _, _, _, _, _, _, _, _, _, _, _, _, _, _, _, _, wrap64 (sort + 1), _, rfl, ?_, ?_, HBV, HK, BSV, BRV⟩
      · rw [EW.out]; exact ⟨by have := HS.out; omega, by have := HS.out; omega⟩
      · rw [EW.out]
        refine ⟨fun s h1 h2 => ?_⟩
        by_cases h : s = sort
        · rw [h]; exact HF.out
        · exact HO.out s h1 (by omega)
    case stop =>
      intro D c pre V hD hi hK
      obtain ⟨rfl, hB, hKp, hR, hF⟩ := hi
      have HK := Aside0.mk (show Marks w0.heap.size ({ target := .collected D, args := #[] } :: ds) V from by
        obtain ⟨Ds, e1, e2, e3⟩ := HM.out
        refine ⟨D :: Ds, by rw [e1]; rfl, List.nodup_cons.2 ⟨fun hD' => ?_, e2⟩, fun D' hD' => ?_⟩
        · have := (Array.getElem?_eq_some_iff.1 (e3 D hD').2).1; omega
        · rcases List.mem_cons.1 hD' with rfl | hD'
          · exact ⟨Nat.le_trans hw5 hD, hK⟩
          · refine ⟨(e3 D' hD').1, hKp.others ?_ (e3 D' hD').2⟩
            simp only [List.mem_cons, List.not_mem_nil, or_false]
            rintro (rfl | rfl)
            · obtain ⟨es, clk, hb', _⟩ := ST.out
              rw [(e3 D' hD').2] at hb'
              cases hb'
            · have hb' := BR.out
              rw [(e3 D' hD').2] at hb'
              cases hb')
      have HBV := Aside0.mk hB
      have BRV := Aside0.mk hR
      have HF := Aside0.mk (show (1 : Int) = checkS x by
        have hc : sort = 1 ∨ sort = 2 ∨ sort = 3 ∨ sort = 4 ∨ sort = 5 := by have := HS.out; omega
        unfold checkS
        rw [if_pos]
        rintro ⟨h1, h2, h3, h4, h5⟩
        rcases hc with rfl | rfl | rfl | rfl | rfl <;> simp_all)
      clear hB hKp hR hF hK hD
      refine wpIn_wide.2 ?_
      go_wp2
      exact check_ret HF.out rfl BRV.out HK.out HBV.out
def fitsB (x : S45) : Bool := [1, 2, 3, 4, 5].all fun s => (namesOf x s).all fun y => decide (y.2.size ≤ 9223372036854775807)
theorem fits_of (x : S45) (h : fitsB x = true) : NamesFit x := by
  intro s y hy
  have hh : ∀ s : Int, s ∈ [(1 : Int), 2, 3, 4, 5] → ∀ y ∈ namesOf x s, y.2.size ≤ 9223372036854775807 := fun s hs y hy => by
    have := List.all_eq_true.1 (List.all_eq_true.1 h s hs) y hy
    simpa using this
  by_cases h1 : s = 1
  · subst h1; exact hh 1 (by simp) y hy
  by_cases h2 : s = 2
  · subst h2; exact hh 2 (by simp) y hy
  by_cases h3 : s = 3
  · subst h3; exact hh 3 (by simp) y hy
  by_cases h4 : s = 4
  · subst h4; exact hh 4 (by simp) y hy
  refine hh 5 (by simp) y ?_
  simpa [namesOf, h1, h2, h3, h4] using hy
def school_Check.f (l0 : List S87) (l1 : List S91) (l2 : List S95) (l3 : List S98) (l4 : List S101) : Option Int := if fitsB ⟨l0, l1, l2, l3, l4⟩ = true then some (checkS ⟨l0, l1, l2, l3, l4⟩) else none
theorem school_Check.calls (A0_0 : Option Addr) (c0_0 : Nat) (l0_0 : List S87) (A0_1 : Option Addr) (c0_1 : Nat) (l0_1 : List S91) (A0_2 : Option Addr) (c0_2 : Nat) (l0_2 : List S95) (A0_3 : Option Addr) (c0_3 : Nat) (l0_3 : List S98) (A0_4 : Option Addr) (c0_4 : Nat) (l0_4 : List S101) (r : Int) (w : World) (hr0_0 : Kd.C k87 w A0_0 l0_0.length l0_0) (hc0_0 : l0_0.length ≤ c0_0) (hr0_1 : Kd.C k91 w A0_1 l0_1.length l0_1) (hc0_1 : l0_1.length ≤ c0_1) (hr0_2 : Kd.C k95 w A0_2 l0_2.length l0_2) (hc0_2 : l0_2.length ≤ c0_2) (hr0_3 : Kd.C k98 w A0_3 l0_3.length l0_3) (hc0_3 : l0_3.length ≤ c0_3) (hr0_4 : Kd.C k101 w A0_4 l0_4.length l0_4) (hc0_4 : l0_4.length ≤ c0_4) (hV : VOk w) (h : school_Check.f l0_0 l0_1 l0_2 l0_3 l0_4 = some r) :
    Calls Tryd.prog 26 #[.agg #[.slice A0_0 l0_0.length c0_0, .slice A0_1 l0_1.length c0_1, .slice A0_2 l0_2.length c0_2, .slice A0_3 l0_3.length c0_3, .slice A0_4 l0_4.length c0_4]] w fun e w' => e = .returned (.int .i64 r) ∧ Below w.heap.size w w' := by
  unfold school_Check.f at h
  split at h
  case isFalse => cases h
  case isTrue hf =>
    obtain rfl := Option.some.inj h
    exact check_walk A0_0 A0_1 A0_2 A0_3 A0_4 c0_0 c0_1 c0_2 c0_3 c0_4 ⟨l0_0, l0_1, l0_2, l0_3, l0_4⟩ w hr0_0 hr0_1 hr0_2 hr0_3 hr0_4 hc0_0 hc0_1 hc0_2 hc0_3 hc0_4 hV (fits_of _ hf)
end
end Go.Proofs.YtjdajlnigiicaaaDoor.S
end
section
namespace Go.Proofs.YtjdajlnigiicaaaDoor.S
open Go.RowKit Go.Proofs.YtjdajlnigiicaaaDoorW.PrintWords Go.Proofs.YtjdajlnigiicaaaDoorW.PrintLast Go.Proofs.YtjdajlnigiicaaaDoorW.PrintMore
set_option linter.unusedVariables false
set_option linter.unusedSimpArgs false
def inW (a : Int) (n : Nat) : Bool := decide (0 ≤ a ∧ a < n)
theorem wwithin_eq (a : Int) (n : Nat) : week_within.f a n = some (inW a n) := by
  unfold week_within.f inW
  by_cases h : 0 ≤ a
  · rw [if_pos h]; simp [h]
  · rw [if_neg h]; simp [h]
def placeBad (ns nr : Nat) (x : S55) : Bool := !inW x.f0 ns || !inW x.f1 nr
set_option maxHeartbeats 8000000 in
set_option maxRecDepth 100000 in
theorem placeBad_pred (Bs : Nat) (A0_0 : Option Addr) (c0_0 : Nat) (l0_0 : List S87) (A0_1 : Option Addr) (c0_1 : Nat) (l0_1 : List S91) (A0_2 : Option Addr) (c0_2 : Nat) (l0_2 : List S95) (A0_3 : Option Addr) (c0_3 : Nat) (l0_3 : List S98) (A0_4 : Option Addr) (c0_4 : Nat) (l0_4 : List S101) (w : World) (hS : w.heap[Bs]? = some (.cells #[.slice A0_0 l0_0.length c0_0, .slice A0_1 l0_1.length c0_1, .slice A0_2 l0_2.length c0_2, .slice A0_3 l0_3.length c0_3, .slice A0_4 l0_4.length c0_4] 45 (0, 0))) : PredOn k55 42 #[.pointer (some ⟨Bs, 0, none⟩)] (placeBad l0_0.length l0_1.length) w := by
  intro W x cs_ hW hK
  obtain rfl := k55_open hK
  have hu := Tryd.underlying55
  have hus := Tryd.underlying45
  have HS0 := Aside0.mk (blk_below hS hW)
  clear hS
  show Calls Tryd.prog 42 #[.agg #[.int .i64 x.f0, .int .i64 x.f1], .pointer (some ⟨Bs, 0, none⟩)] W _
  cases h0 : inW x.f0 l0_0.length <;> cases h1 : inW x.f1 l0_1.length
  all_goals
    go_enter Tryd.func42, Tryd.ntmps42
    go_wp2_with (first | ((with_reducible refine gate_dst (N := 2) rfl ?_); refine box_event ?hg (N := 2) ?hd (cs := #[.int .i64 x.f0, .int .i64 x.f1]) (t := 55) ?hr ?_; (case hd => rfl); (case hg => rfl); (case hr => first | (go_simp; done) | (go_simp; rfl)); intro gb hg w1 hbox hb; have zb0 : w1.cell? ⟨gb, 0, none⟩ = some (.int .i64 x.f0) := (blk_cell hbox 0).trans rfl; have zb1 : w1.cell? ⟨gb, 1, none⟩ = some (.int .i64 x.f1) := (blk_cell hbox 1).trans rfl; have HB := Aside0.mk hb; have BS := Aside0.mk (blk_below HS0.out hb); clear hb hbox hg; have zs0 : w1.cell? ⟨Bs, 0, none⟩ = some (.slice A0_0 l0_0.length c0_0) := (blk_cell BS.out 0).trans rfl; have zs1 : w1.cell? ⟨Bs, 1, none⟩ = some (.slice A0_1 l0_1.length c0_1) := (blk_cell BS.out 1).trans rfl; have zs2 : w1.cell? ⟨Bs, 2, none⟩ = some (.slice A0_2 l0_2.length c0_2) := (blk_cell BS.out 2).trans rfl; have zs3 : w1.cell? ⟨Bs, 3, none⟩ = some (.slice A0_3 l0_3.length c0_3) := (blk_cell BS.out 3).trans rfl; have zs4 : w1.cell? ⟨Bs, 4, none⟩ = some (.slice A0_4 l0_4.length c0_4) := (blk_cell BS.out 4).trans rfl) | (go_at_call 43; refine (week_within.calls _ _ _ _ (wwithin_eq _ _)).mono ?_; rintro e w' ⟨rfl, ⟨nd, rfl⟩⟩))
    go_ret
    exact ⟨by simp [placeBad, h0, h1], by repeat (first | (with_reducible first | exact HB.out | apply pw_below_drewN | apply below_drew1) | exact HB.out)⟩
def checkW (x : S45) (l : List S55) : Int := if checkS x ≠ 0 then checkS x else if l.length ≠ x.f4.length ∨ l.any (placeBad x.f0.length x.f1.length) = true then 40 else 0
def week_Check.f (l0_0 : List S87) (l0_1 : List S91) (l0_2 : List S95) (l0_3 : List S98) (l0_4 : List S101) (l1 : List S55) : Option Int := if fitsB ⟨l0_0, l0_1, l0_2, l0_3, l0_4⟩ = true then some (checkW ⟨l0_0, l0_1, l0_2, l0_3, l0_4⟩ l1) else none
set_option maxHeartbeats 8000000 in
set_option maxRecDepth 100000 in
theorem week_Check.calls (A0_0 : Option Addr) (c0_0 : Nat) (l0_0 : List S87) (A0_1 : Option Addr) (c0_1 : Nat) (l0_1 : List S91) (A0_2 : Option Addr) (c0_2 : Nat) (l0_2 : List S95) (A0_3 : Option Addr) (c0_3 : Nat) (l0_3 : List S98) (A0_4 : Option Addr) (c0_4 : Nat) (l0_4 : List S101) (A1 : Option Addr) (c1 : Nat) (l1 : List S55) (r : Int) (w : World) (hr0_0 : Kd.C k87 w A0_0 l0_0.length l0_0) (hc0_0 : l0_0.length ≤ c0_0) (hr0_1 : Kd.C k91 w A0_1 l0_1.length l0_1) (hc0_1 : l0_1.length ≤ c0_1) (hr0_2 : Kd.C k95 w A0_2 l0_2.length l0_2) (hc0_2 : l0_2.length ≤ c0_2) (hr0_3 : Kd.C k98 w A0_3 l0_3.length l0_3) (hc0_3 : l0_3.length ≤ c0_3) (hr0_4 : Kd.C k101 w A0_4 l0_4.length l0_4) (hc0_4 : l0_4.length ≤ c0_4) (hr1 : Kd.C k55 w A1 l1.length l1) (hc1 : l1.length ≤ c1) (hV : VOk w) (h : week_Check.f l0_0 l0_1 l0_2 l0_3 l0_4 l1 = some r) :
    Calls Tryd.prog 24 #[(.agg #[.slice A0_0 l0_0.length c0_0, .slice A0_1 l0_1.length c0_1, .slice A0_2 l0_2.length c0_2, .slice A0_3 l0_3.length c0_3, .slice A0_4 l0_4.length c0_4]), .agg #[.slice A1 l1.length c1]] w fun e w' => e = .returned (.int .i64 r) ∧ Below w.heap.size w w' := by
  have hu := Tryd.underlying45
  have huw := Tryd.underlying24
  unfold week_Check.f at h
  split at h
  case isFalse => cases h
  case isTrue hf =>
  obtain rfl := Option.some.inj h
  have HF := Aside0.mk (show school_Check.f l0_0 l0_1 l0_2 l0_3 l0_4 = some (checkS ⟨l0_0, l0_1, l0_2, l0_3, l0_4⟩) from if_pos hf)
  have HV := Aside0.mk hV
  clear h hf hV
  have HR0_0 := Aside0.mk hr0_0
  have HC0_0 := Aside0.mk hc0_0
  clear hr0_0 hc0_0
  have HR0_1 := Aside0.mk hr0_1
  have HC0_1 := Aside0.mk hc0_1
  clear hr0_1 hc0_1
  have HR0_2 := Aside0.mk hr0_2
  have HC0_2 := Aside0.mk hc0_2
  clear hr0_2 hc0_2
  have HR0_3 := Aside0.mk hr0_3
  have HC0_3 := Aside0.mk hc0_3
  clear hr0_3 hc0_3
  have HR0_4 := Aside0.mk hr0_4
  have HC0_4 := Aside0.mk hc0_4
  clear hr0_4 hc0_4
  have HR1 := Aside0.mk hr1
  have HC1 := Aside0.mk hc1
  clear hr1 hc1
  have HW := Aside0.mk (show checkW ⟨l0_0, l0_1, l0_2, l0_3, l0_4⟩ l1 = if checkS ⟨l0_0, l0_1, l0_2, l0_3, l0_4⟩ ≠ 0 then checkS ⟨l0_0, l0_1, l0_2, l0_3, l0_4⟩ else if l1.length ≠ l0_4.length ∨ l1.any (placeBad l0_0.length l0_1.length) = true then 40 else 0 from rfl)
  generalize checkW ⟨l0_0, l0_1, l0_2, l0_3, l0_4⟩ l1 = rr at HW ⊢
  generalize checkS ⟨l0_0, l0_1, l0_2, l0_3, l0_4⟩ = cs at HW HF
  by_cases h0 : cs = 0
  · subst h0
    by_cases h1 : l1.length = l0_4.length
    · cases hb : l1.any (placeBad l0_0.length l0_1.length) with
      | true =>
        have HE := Aside0.mk (show rr = 40 by rw [HW.out]; simp [hb])
        have n1 : ((l1.length : Int) == (l0_4.length : Int)) = true := by simp [h1]
        have n2 : decide (l1.length = l0_4.length) = true := decide_eq_true h1
        have n4 : ((l1.length : Int) != (l0_4.length : Int)) = false := by simp [h1]
        have n5 : (l1.length : Int) = (l0_4.length : Int) := by omega
        clear h1 HW
        go_enter Tryd.func24, Tryd.ntmps24
        go_wp2_with (first | ((with_reducible refine gate_dst (N := 2) rfl ?_); refine box_event ?hg (N := 2) ?hd (cs := #[.slice A0_0 l0_0.length c0_0, .slice A0_1 l0_1.length c0_1, .slice A0_2 l0_2.length c0_2, .slice A0_3 l0_3.length c0_3, .slice A0_4 l0_4.length c0_4]) (t := 45) ?hr ?_; (case hd => rfl); (case hg => rfl); (case hr => first | (go_simp; done) | (go_simp; rfl)); intro gs hgs w1 hbox hb; have HB := Aside0.mk hb; have BS := Aside0.mk hbox; clear hb hbox hgs; have zs0 : w1.cell? ⟨gs, 0, none⟩ = some (.slice A0_0 l0_0.length c0_0) := (blk_cell BS.out 0).trans rfl; have zs1 : w1.cell? ⟨gs, 1, none⟩ = some (.slice A0_1 l0_1.length c0_1) := (blk_cell BS.out 1).trans rfl; have zs2 : w1.cell? ⟨gs, 2, none⟩ = some (.slice A0_2 l0_2.length c0_2) := (blk_cell BS.out 2).trans rfl; have zs3 : w1.cell? ⟨gs, 3, none⟩ = some (.slice A0_3 l0_3.length c0_3) := (blk_cell BS.out 3).trans rfl; have zs4 : w1.cell? ⟨gs, 4, none⟩ = some (.slice A0_4 l0_4.length c0_4) := (blk_cell BS.out 4).trans rfl) | ((with_reducible refine gate_dst (N := 3) rfl ?_); refine box_event ?hg (N := 3) ?hd (cs := #[.slice A1 l1.length c1]) (t := 24) ?hr ?_; (case hd => rfl); (case hg => rfl); (case hr => first | (go_simp; done) | (go_simp; rfl)); intro gw hgw w2 hbox hb; clear zs0 zs1 zs2 zs3 zs4; have BW := Aside0.mk hbox; replace BS := Aside0.mk (blk_below BS.out hb); replace HB := Aside0.mk (below_step HB.out hb); clear hb hbox hgw; have zs0 : w2.cell? ⟨gs, 0, none⟩ = some (.slice A0_0 l0_0.length c0_0) := (blk_cell BS.out 0).trans rfl; have zs1 : w2.cell? ⟨gs, 1, none⟩ = some (.slice A0_1 l0_1.length c0_1) := (blk_cell BS.out 1).trans rfl; have zs2 : w2.cell? ⟨gs, 2, none⟩ = some (.slice A0_2 l0_2.length c0_2) := (blk_cell BS.out 2).trans rfl; have zs3 : w2.cell? ⟨gs, 3, none⟩ = some (.slice A0_3 l0_3.length c0_3) := (blk_cell BS.out 3).trans rfl; have zs4 : w2.cell? ⟨gs, 4, none⟩ = some (.slice A0_4 l0_4.length c0_4) := (blk_cell BS.out 4).trans rfl; have zw : w2.cell? ⟨gw, 0, none⟩ = some (.slice A1 l1.length c1) := (blk_cell BW.out 0).trans rfl) | (go_at_call 26; refine (school_Check.calls _ _ l0_0 _ _ l0_1 _ _ l0_2 _ _ l0_3 _ _ l0_4 _ _ (Kd.C_below HR0_0.out HB.out) HC0_0.out (Kd.C_below HR0_1.out HB.out) HC0_1.out (Kd.C_below HR0_2.out HB.out) HC0_2.out (Kd.C_below HR0_3.out HB.out) HC0_3.out (Kd.C_below HR0_4.out HB.out) HC0_4.out (HV.out.below HB.out) HF.out).mono ?_; rintro e w3 ⟨rfl, hb⟩; clear zs0 zs1 zs2 zs3 zs4; (try clear zw); replace BS := Aside0.mk (blk_below BS.out hb); replace BW := Aside0.mk (blk_below BW.out hb); replace HB := Aside0.mk (below_step HB.out hb); clear hb; have zs0 : w3.cell? ⟨gs, 0, none⟩ = some (.slice A0_0 l0_0.length c0_0) := (blk_cell BS.out 0).trans rfl; have zs1 : w3.cell? ⟨gs, 1, none⟩ = some (.slice A0_1 l0_1.length c0_1) := (blk_cell BS.out 1).trans rfl; have zs2 : w3.cell? ⟨gs, 2, none⟩ = some (.slice A0_2 l0_2.length c0_2) := (blk_cell BS.out 2).trans rfl; have zs3 : w3.cell? ⟨gs, 3, none⟩ = some (.slice A0_3 l0_3.length c0_3) := (blk_cell BS.out 3).trans rfl; have zs4 : w3.cell? ⟨gs, 4, none⟩ = some (.slice A0_4 l0_4.length c0_4) := (blk_cell BS.out 4).trans rfl; have zw : w3.cell? ⟨gw, 0, none⟩ = some (.slice A1 l1.length c1) := (blk_cell BW.out 0).trans rfl) | (go_at_call 44; refine (any_Place.calls 42 #[.pointer (some ⟨gs, 0, none⟩)] (placeBad l0_0.length l0_1.length) (fun args w => enters_ Tryd.func42 (by kernel_rfl) rfl args w) A1 c1 l1 _ (Kd.C_below HR1.out HB.out) HC1.out (placeBad_pred gs _ _ _ _ _ _ _ _ _ _ _ _ _ _ _ _ BS.out)).mono ?_; rintro e w4 ⟨rfl, hb⟩; replace HB := Aside0.mk (below_step HB.out hb); clear hb))
        go_ret
        exact ⟨by have := HE.out; subst this; rfl, HB.out⟩
      | false =>
        have HE := Aside0.mk (show rr = 0 by rw [HW.out]; simp [hb, h1])
        have n1 : ((l1.length : Int) == (l0_4.length : Int)) = true := by simp [h1]
        have n2 : decide (l1.length = l0_4.length) = true := decide_eq_true h1
        have n4 : ((l1.length : Int) != (l0_4.length : Int)) = false := by simp [h1]
        have n5 : (l1.length : Int) = (l0_4.length : Int) := by omega
        clear h1 HW
        go_enter Tryd.func24, Tryd.ntmps24
        go_wp2_with (first | ((with_reducible refine gate_dst (N := 2) rfl ?_); refine box_event ?hg (N := 2) ?hd (cs := #[.slice A0_0 l0_0.length c0_0, .slice A0_1 l0_1.length c0_1, .slice A0_2 l0_2.length c0_2, .slice A0_3 l0_3.length c0_3, .slice A0_4 l0_4.length c0_4]) (t := 45) ?hr ?_; (case hd => rfl); (case hg => rfl); (case hr => first | (go_simp; done) | (go_simp; rfl)); intro gs hgs w1 hbox hb; have HB := Aside0.mk hb; have BS := Aside0.mk hbox; clear hb hbox hgs; have zs0 : w1.cell? ⟨gs, 0, none⟩ = some (.slice A0_0 l0_0.length c0_0) := (blk_cell BS.out 0).trans rfl; have zs1 : w1.cell? ⟨gs, 1, none⟩ = some (.slice A0_1 l0_1.length c0_1) := (blk_cell BS.out 1).trans rfl; have zs2 : w1.cell? ⟨gs, 2, none⟩ = some (.slice A0_2 l0_2.length c0_2) := (blk_cell BS.out 2).trans rfl; have zs3 : w1.cell? ⟨gs, 3, none⟩ = some (.slice A0_3 l0_3.length c0_3) := (blk_cell BS.out 3).trans rfl; have zs4 : w1.cell? ⟨gs, 4, none⟩ = some (.slice A0_4 l0_4.length c0_4) := (blk_cell BS.out 4).trans rfl) | ((with_reducible refine gate_dst (N := 3) rfl ?_); refine box_event ?hg (N := 3) ?hd (cs := #[.slice A1 l1.length c1]) (t := 24) ?hr ?_; (case hd => rfl); (case hg => rfl); (case hr => first | (go_simp; done) | (go_simp; rfl)); intro gw hgw w2 hbox hb; clear zs0 zs1 zs2 zs3 zs4; have BW := Aside0.mk hbox; replace BS := Aside0.mk (blk_below BS.out hb); replace HB := Aside0.mk (below_step HB.out hb); clear hb hbox hgw; have zs0 : w2.cell? ⟨gs, 0, none⟩ = some (.slice A0_0 l0_0.length c0_0) := (blk_cell BS.out 0).trans rfl; have zs1 : w2.cell? ⟨gs, 1, none⟩ = some (.slice A0_1 l0_1.length c0_1) := (blk_cell BS.out 1).trans rfl; have zs2 : w2.cell? ⟨gs, 2, none⟩ = some (.slice A0_2 l0_2.length c0_2) := (blk_cell BS.out 2).trans rfl; have zs3 : w2.cell? ⟨gs, 3, none⟩ = some (.slice A0_3 l0_3.length c0_3) := (blk_cell BS.out 3).trans rfl; have zs4 : w2.cell? ⟨gs, 4, none⟩ = some (.slice A0_4 l0_4.length c0_4) := (blk_cell BS.out 4).trans rfl; have zw : w2.cell? ⟨gw, 0, none⟩ = some (.slice A1 l1.length c1) := (blk_cell BW.out 0).trans rfl) | (go_at_call 26; refine (school_Check.calls _ _ l0_0 _ _ l0_1 _ _ l0_2 _ _ l0_3 _ _ l0_4 _ _ (Kd.C_below HR0_0.out HB.out) HC0_0.out (Kd.C_below HR0_1.out HB.out) HC0_1.out (Kd.C_below HR0_2.out HB.out) HC0_2.out (Kd.C_below HR0_3.out HB.out) HC0_3.out (Kd.C_below HR0_4.out HB.out) HC0_4.out (HV.out.below HB.out) HF.out).mono ?_; rintro e w3 ⟨rfl, hb⟩; clear zs0 zs1 zs2 zs3 zs4; (try clear zw); replace BS := Aside0.mk (blk_below BS.out hb); replace BW := Aside0.mk (blk_below BW.out hb); replace HB := Aside0.mk (below_step HB.out hb); clear hb; have zs0 : w3.cell? ⟨gs, 0, none⟩ = some (.slice A0_0 l0_0.length c0_0) := (blk_cell BS.out 0).trans rfl; have zs1 : w3.cell? ⟨gs, 1, none⟩ = some (.slice A0_1 l0_1.length c0_1) := (blk_cell BS.out 1).trans rfl; have zs2 : w3.cell? ⟨gs, 2, none⟩ = some (.slice A0_2 l0_2.length c0_2) := (blk_cell BS.out 2).trans rfl; have zs3 : w3.cell? ⟨gs, 3, none⟩ = some (.slice A0_3 l0_3.length c0_3) := (blk_cell BS.out 3).trans rfl; have zs4 : w3.cell? ⟨gs, 4, none⟩ = some (.slice A0_4 l0_4.length c0_4) := (blk_cell BS.out 4).trans rfl; have zw : w3.cell? ⟨gw, 0, none⟩ = some (.slice A1 l1.length c1) := (blk_cell BW.out 0).trans rfl) | (go_at_call 44; refine (any_Place.calls 42 #[.pointer (some ⟨gs, 0, none⟩)] (placeBad l0_0.length l0_1.length) (fun args w => enters_ Tryd.func42 (by kernel_rfl) rfl args w) A1 c1 l1 _ (Kd.C_below HR1.out HB.out) HC1.out (placeBad_pred gs _ _ _ _ _ _ _ _ _ _ _ _ _ _ _ _ BS.out)).mono ?_; rintro e w4 ⟨rfl, hb⟩; replace HB := Aside0.mk (below_step HB.out hb); clear hb))
        go_ret
        exact ⟨by have := HE.out; subst this; rfl, HB.out⟩
    · have HE := Aside0.mk (show rr = 40 by rw [HW.out]; simp [h1])
      have n1 : ((l1.length : Int) == (l0_4.length : Int)) = false := by simp; omega
      have n2 : decide (l1.length = l0_4.length) = false := decide_eq_false h1
      have n4 : ((l1.length : Int) != (l0_4.length : Int)) = true := by simp; omega
      have n5 : ¬ (l1.length : Int) = (l0_4.length : Int) := by omega
      clear h1 HW
      go_enter Tryd.func24, Tryd.ntmps24
      go_wp2_with (first | ((with_reducible refine gate_dst (N := 2) rfl ?_); refine box_event ?hg (N := 2) ?hd (cs := #[.slice A0_0 l0_0.length c0_0, .slice A0_1 l0_1.length c0_1, .slice A0_2 l0_2.length c0_2, .slice A0_3 l0_3.length c0_3, .slice A0_4 l0_4.length c0_4]) (t := 45) ?hr ?_; (case hd => rfl); (case hg => rfl); (case hr => first | (go_simp; done) | (go_simp; rfl)); intro gs hgs w1 hbox hb; have HB := Aside0.mk hb; have BS := Aside0.mk hbox; clear hb hbox hgs; have zs0 : w1.cell? ⟨gs, 0, none⟩ = some (.slice A0_0 l0_0.length c0_0) := (blk_cell BS.out 0).trans rfl; have zs1 : w1.cell? ⟨gs, 1, none⟩ = some (.slice A0_1 l0_1.length c0_1) := (blk_cell BS.out 1).trans rfl; have zs2 : w1.cell? ⟨gs, 2, none⟩ = some (.slice A0_2 l0_2.length c0_2) := (blk_cell BS.out 2).trans rfl; have zs3 : w1.cell? ⟨gs, 3, none⟩ = some (.slice A0_3 l0_3.length c0_3) := (blk_cell BS.out 3).trans rfl; have zs4 : w1.cell? ⟨gs, 4, none⟩ = some (.slice A0_4 l0_4.length c0_4) := (blk_cell BS.out 4).trans rfl) | ((with_reducible refine gate_dst (N := 3) rfl ?_); refine box_event ?hg (N := 3) ?hd (cs := #[.slice A1 l1.length c1]) (t := 24) ?hr ?_; (case hd => rfl); (case hg => rfl); (case hr => first | (go_simp; done) | (go_simp; rfl)); intro gw hgw w2 hbox hb; clear zs0 zs1 zs2 zs3 zs4; have BW := Aside0.mk hbox; replace BS := Aside0.mk (blk_below BS.out hb); replace HB := Aside0.mk (below_step HB.out hb); clear hb hbox hgw; have zs0 : w2.cell? ⟨gs, 0, none⟩ = some (.slice A0_0 l0_0.length c0_0) := (blk_cell BS.out 0).trans rfl; have zs1 : w2.cell? ⟨gs, 1, none⟩ = some (.slice A0_1 l0_1.length c0_1) := (blk_cell BS.out 1).trans rfl; have zs2 : w2.cell? ⟨gs, 2, none⟩ = some (.slice A0_2 l0_2.length c0_2) := (blk_cell BS.out 2).trans rfl; have zs3 : w2.cell? ⟨gs, 3, none⟩ = some (.slice A0_3 l0_3.length c0_3) := (blk_cell BS.out 3).trans rfl; have zs4 : w2.cell? ⟨gs, 4, none⟩ = some (.slice A0_4 l0_4.length c0_4) := (blk_cell BS.out 4).trans rfl; have zw : w2.cell? ⟨gw, 0, none⟩ = some (.slice A1 l1.length c1) := (blk_cell BW.out 0).trans rfl) | (go_at_call 26; refine (school_Check.calls _ _ l0_0 _ _ l0_1 _ _ l0_2 _ _ l0_3 _ _ l0_4 _ _ (Kd.C_below HR0_0.out HB.out) HC0_0.out (Kd.C_below HR0_1.out HB.out) HC0_1.out (Kd.C_below HR0_2.out HB.out) HC0_2.out (Kd.C_below HR0_3.out HB.out) HC0_3.out (Kd.C_below HR0_4.out HB.out) HC0_4.out (HV.out.below HB.out) HF.out).mono ?_; rintro e w3 ⟨rfl, hb⟩; clear zs0 zs1 zs2 zs3 zs4; (try clear zw); replace BS := Aside0.mk (blk_below BS.out hb); replace BW := Aside0.mk (blk_below BW.out hb); replace HB := Aside0.mk (below_step HB.out hb); clear hb; have zs0 : w3.cell? ⟨gs, 0, none⟩ = some (.slice A0_0 l0_0.length c0_0) := (blk_cell BS.out 0).trans rfl; have zs1 : w3.cell? ⟨gs, 1, none⟩ = some (.slice A0_1 l0_1.length c0_1) := (blk_cell BS.out 1).trans rfl; have zs2 : w3.cell? ⟨gs, 2, none⟩ = some (.slice A0_2 l0_2.length c0_2) := (blk_cell BS.out 2).trans rfl; have zs3 : w3.cell? ⟨gs, 3, none⟩ = some (.slice A0_3 l0_3.length c0_3) := (blk_cell BS.out 3).trans rfl; have zs4 : w3.cell? ⟨gs, 4, none⟩ = some (.slice A0_4 l0_4.length c0_4) := (blk_cell BS.out 4).trans rfl; have zw : w3.cell? ⟨gw, 0, none⟩ = some (.slice A1 l1.length c1) := (blk_cell BW.out 0).trans rfl) | (go_at_call 44; refine (any_Place.calls 42 #[.pointer (some ⟨gs, 0, none⟩)] (placeBad l0_0.length l0_1.length) (fun args w => enters_ Tryd.func42 (by kernel_rfl) rfl args w) A1 c1 l1 _ (Kd.C_below HR1.out HB.out) HC1.out (placeBad_pred gs _ _ _ _ _ _ _ _ _ _ _ _ _ _ _ _ BS.out)).mono ?_; rintro e w4 ⟨rfl, hb⟩; replace HB := Aside0.mk (below_step HB.out hb); clear hb))
      go_ret
      exact ⟨by have := HE.out; subst this; rfl, HB.out⟩
  · have HE := Aside0.mk (show rr = cs by rw [HW.out]; simp [h0])
    have n0 : (cs == 0) = false := by simpa using h0
    have n3 : decide (cs = 0) = false := decide_eq_false h0
    have n4 : (cs != 0) = true := by simpa using h0
    clear HW h0
    go_enter Tryd.func24, Tryd.ntmps24
    go_wp2_with (first | ((with_reducible refine gate_dst (N := 2) rfl ?_); refine box_event ?hg (N := 2) ?hd (cs := #[.slice A0_0 l0_0.length c0_0, .slice A0_1 l0_1.length c0_1, .slice A0_2 l0_2.length c0_2, .slice A0_3 l0_3.length c0_3, .slice A0_4 l0_4.length c0_4]) (t := 45) ?hr ?_; (case hd => rfl); (case hg => rfl); (case hr => first | (go_simp; done) | (go_simp; rfl)); intro gs hgs w1 hbox hb; have HB := Aside0.mk hb; have BS := Aside0.mk hbox; clear hb hbox hgs; have zs0 : w1.cell? ⟨gs, 0, none⟩ = some (.slice A0_0 l0_0.length c0_0) := (blk_cell BS.out 0).trans rfl; have zs1 : w1.cell? ⟨gs, 1, none⟩ = some (.slice A0_1 l0_1.length c0_1) := (blk_cell BS.out 1).trans rfl; have zs2 : w1.cell? ⟨gs, 2, none⟩ = some (.slice A0_2 l0_2.length c0_2) := (blk_cell BS.out 2).trans rfl; have zs3 : w1.cell? ⟨gs, 3, none⟩ = some (.slice A0_3 l0_3.length c0_3) := (blk_cell BS.out 3).trans rfl; have zs4 : w1.cell? ⟨gs, 4, none⟩ = some (.slice A0_4 l0_4.length c0_4) := (blk_cell BS.out 4).trans rfl) | ((with_reducible refine gate_dst (N := 3) rfl ?_); refine box_event ?hg (N := 3) ?hd (cs := #[.slice A1 l1.length c1]) (t := 24) ?hr ?_; (case hd => rfl); (case hg => rfl); (case hr => first | (go_simp; done) | (go_simp; rfl)); intro gw hgw w2 hbox hb; clear zs0 zs1 zs2 zs3 zs4; have BW := Aside0.mk hbox; replace BS := Aside0.mk (blk_below BS.out hb); replace HB := Aside0.mk (below_step HB.out hb); clear hb hbox hgw; have zs0 : w2.cell? ⟨gs, 0, none⟩ = some (.slice A0_0 l0_0.length c0_0) := (blk_cell BS.out 0).trans rfl; have zs1 : w2.cell? ⟨gs, 1, none⟩ = some (.slice A0_1 l0_1.length c0_1) := (blk_cell BS.out 1).trans rfl; have zs2 : w2.cell? ⟨gs, 2, none⟩ = some (.slice A0_2 l0_2.length c0_2) := (blk_cell BS.out 2).trans rfl; have zs3 : w2.cell? ⟨gs, 3, none⟩ = some (.slice A0_3 l0_3.length c0_3) := (blk_cell BS.out 3).trans rfl; have zs4 : w2.cell? ⟨gs, 4, none⟩ = some (.slice A0_4 l0_4.length c0_4) := (blk_cell BS.out 4).trans rfl; have zw : w2.cell? ⟨gw, 0, none⟩ = some (.slice A1 l1.length c1) := (blk_cell BW.out 0).trans rfl) | (go_at_call 26; refine (school_Check.calls _ _ l0_0 _ _ l0_1 _ _ l0_2 _ _ l0_3 _ _ l0_4 _ _ (Kd.C_below HR0_0.out HB.out) HC0_0.out (Kd.C_below HR0_1.out HB.out) HC0_1.out (Kd.C_below HR0_2.out HB.out) HC0_2.out (Kd.C_below HR0_3.out HB.out) HC0_3.out (Kd.C_below HR0_4.out HB.out) HC0_4.out (HV.out.below HB.out) HF.out).mono ?_; rintro e w3 ⟨rfl, hb⟩; clear zs0 zs1 zs2 zs3 zs4; (try clear zw); replace BS := Aside0.mk (blk_below BS.out hb); replace BW := Aside0.mk (blk_below BW.out hb); replace HB := Aside0.mk (below_step HB.out hb); clear hb; have zs0 : w3.cell? ⟨gs, 0, none⟩ = some (.slice A0_0 l0_0.length c0_0) := (blk_cell BS.out 0).trans rfl; have zs1 : w3.cell? ⟨gs, 1, none⟩ = some (.slice A0_1 l0_1.length c0_1) := (blk_cell BS.out 1).trans rfl; have zs2 : w3.cell? ⟨gs, 2, none⟩ = some (.slice A0_2 l0_2.length c0_2) := (blk_cell BS.out 2).trans rfl; have zs3 : w3.cell? ⟨gs, 3, none⟩ = some (.slice A0_3 l0_3.length c0_3) := (blk_cell BS.out 3).trans rfl; have zs4 : w3.cell? ⟨gs, 4, none⟩ = some (.slice A0_4 l0_4.length c0_4) := (blk_cell BS.out 4).trans rfl; have zw : w3.cell? ⟨gw, 0, none⟩ = some (.slice A1 l1.length c1) := (blk_cell BW.out 0).trans rfl) | (go_at_call 44; refine (any_Place.calls 42 #[.pointer (some ⟨gs, 0, none⟩)] (placeBad l0_0.length l0_1.length) (fun args w => enters_ Tryd.func42 (by kernel_rfl) rfl args w) A1 c1 l1 _ (Kd.C_below HR1.out HB.out) HC1.out (placeBad_pred gs _ _ _ _ _ _ _ _ _ _ _ _ _ _ _ _ BS.out)).mono ?_; rintro e w4 ⟨rfl, hb⟩; replace HB := Aside0.mk (below_step HB.out hb); clear hb))
    go_ret
    exact ⟨by have := HE.out; subst this; rfl, HB.out⟩
end Go.Proofs.YtjdajlnigiicaaaDoor.S
end
section
namespace Go.Proofs.YtjdajlnigiicaaaDoor.S
open Go.RowKit Go.Proofs.YtjdajlnigiicaaaDoorW.PrintWords Go.Proofs.YtjdajlnigiicaaaDoorW.PrintLast Go.Proofs.YtjdajlnigiicaaaDoorW.PrintMore
attribute [local go_sem] max2_int min2_int max_two min_two max_three min_three max_four min_four   -- for this text's walks alone
set_option linter.unusedVariables false
set_option linter.unusedSimpArgs false
def week_True.l0 : Nat → List Bool → List (S55) → Int → Int → List (S87) → List (S91) → List (S95) → List (S98) → List (S101) → Option (List Bool × Int)
  | 0, _, _, _, _, _, _, _, _, _ => none
  | k + 1, x7, x21, x22, x23, x145000, x145001, x145002, x145003, x145004 => if x23 < x22 then (if 0 ≤ x23 then (if x23 < (x21.length : Int) then ((week_At.f x145000 x145001 x145002 x145003 x145004 x23 ((rd_T55 x21 x23).f0)).bind fun t153 => ((week_In.f x145000 x145001 x145002 x145003 x145004 x23 ((rd_T55 x21 x23).f1)).bind fun t154 => (if 0 ≤ t153 then (if t153 < (x7.length : Int) then (if 0 ≤ t154 then (if t154 < (x7.length : Int) then (week_True.l0 k ((x7.set (t153 : Int).toNat true).set (t154 : Int).toNat true) x21 x22 (wrap64 (x23 + 1)) x145000 x145001 x145002 x145003 x145004) else (none)) else (none)) else (none)) else (none)))) else (none)) else (none)) else (some (x7, 0))
def week_True.f (k : Nat) (l0_0 : List (S87)) (l0_1 : List (S91)) (l0_2 : List (S95)) (l0_3 : List (S98)) (l0_4 : List (S101)) (l1_0 : List (S55)) : Option (List Bool × Int) := (week_Check.f l0_0 l0_1 l0_2 l0_3 l0_4 l1_0).bind fun t146 => (if t146 = 0 then ((week_Vars.f l0_0 l0_1 l0_2 l0_3 l0_4).bind fun t147 => (if 0 ≤ (wrap64 (t147 + 1)) then (if (wrap64 (t147 + 1) : Int).toNat ≤ 281474976710656 then (week_True.l0 k (List.replicate (wrap64 (t147 + 1) : Int).toNat false) l1_0 (l1_0.length : Int) 0 l0_0 l0_1 l0_2 l0_3 l0_4) else (none)) else (none))) else (some (([] : List Bool), t146)))
def week_True.T8 : Bool × List (List Nat × List Nat) := (true, [([], []), ([], []), ([], []), ([], []), ([3], [3]), ([1, 2, 4], [1, 2, 4]), ([], []), ([], []), ([], []), ([], []), ([9], [9]), ([7, 8, 10, 5], [7, 8, 10]), ([0, 5, 0, 1, 2, 3, 4, 5, 11], [0, 5]), ([12, 11, 0, 1, 2, 3, 4, 5, 11], [12]), ([6, 11, 0, 1, 2, 3, 4, 5, 6, 7, 8, 9, 10, 11, 12, 13], [6, 11]), ([14, 13, 0, 1, 2, 3, 4, 5, 6, 7, 8, 9, 10, 11, 12, 13], [14])])
def week_True.B8 : List Nat := [0, 0, 0, 0, 8, 30, 0, 0, 0, 0, 512, 1982, 4031, 8127, 16383, 32767]
theorem week_True.tab8 : rtab .any (opsOf Tryd.f21 8) = week_True.T8 := by kernel_rfl
theorem week_True.bits8 : waitsOk week_True.T8.2 week_True.B8 = true := by kernel_rfl
set_option maxHeartbeats 8000000 in
set_option maxRecDepth 100000 in
theorem week_True.calls (k : Nat) (A0_0 : Option Addr) (c0_0 : Nat) (l0_0 : List (S87)) (A0_1 : Option Addr) (c0_1 : Nat) (l0_1 : List (S91)) (A0_2 : Option Addr) (c0_2 : Nat) (l0_2 : List (S95)) (A0_3 : Option Addr) (c0_3 : Nat) (l0_3 : List (S98)) (A0_4 : Option Addr) (c0_4 : Nat) (l0_4 : List (S101)) (A1_0 : Option Addr) (c1_0 : Nat) (l1_0 : List (S55)) (r1 : List Bool) (r2 : Int) (w : World) (hr0_0 : Kd.C k87 w A0_0 l0_0.length l0_0) (hc0_0 : l0_0.length ≤ c0_0) (hr0_1 : Kd.C k91 w A0_1 l0_1.length l0_1) (hc0_1 : l0_1.length ≤ c0_1) (hr0_2 : Kd.C k95 w A0_2 l0_2.length l0_2) (hc0_2 : l0_2.length ≤ c0_2) (hr0_3 : Kd.C k98 w A0_3 l0_3.length l0_3) (hc0_3 : l0_3.length ≤ c0_3) (hr0_4 : Kd.C k101 w A0_4 l0_4.length l0_4) (hc0_4 : l0_4.length ≤ c0_4) (hr1_0 : Kd.C k55 w A1_0 l1_0.length l1_0) (hc1_0 : l1_0.length ≤ c1_0) (hV : VOk w) (h : week_True.f k l0_0 l0_1 l0_2 l0_3 l0_4 l1_0 = some (r1, r2)) :
    Calls Tryd.prog 21 #[.agg #[.slice A0_0 l0_0.length c0_0, .slice A0_1 l0_1.length c0_1, .slice A0_2 l0_2.length c0_2, .slice A0_3 l0_3.length c0_3, .slice A0_4 l0_4.length c0_4], .agg #[.slice A1_0 l1_0.length c1_0]] w fun e w' => ∃ v0_ : Value, e = .returned (.tuple #[v0_, .int .i64 r2]) ∧ Kd.R Kd.bool 4 w' w.heap.size (fun _ => True) v0_ r1 ∧ Below w.heap.size w w' := by
  have HV := Aside0.mk hV
  clear hV
  have hu45 := Tryd.underlying45
  have hu24 := Tryd.underlying24
  have hu55 := Tryd.underlying55
  have HR0_0 := Aside0.mk hr0_0
  have HC0_0 := Aside0.mk hc0_0
  clear hr0_0 hc0_0
  have HR0_1 := Aside0.mk hr0_1
  have HC0_1 := Aside0.mk hc0_1
  clear hr0_1 hc0_1
  have HR0_2 := Aside0.mk hr0_2
  have HC0_2 := Aside0.mk hc0_2
  clear hr0_2 hc0_2
  have HR0_3 := Aside0.mk hr0_3
  have HC0_3 := Aside0.mk hc0_3
  clear hr0_3 hc0_3
  have HR0_4 := Aside0.mk hr0_4
  have HC0_4 := Aside0.mk hc0_4
  clear hr0_4 hc0_4
  have HR1_0 := Aside0.mk hr1_0
  have HC1_0 := Aside0.mk hc1_0
  clear hr1_0 hc1_0
  have HB := Aside0.mk (Below.refl w.heap.size w)
  have H : ((week_Check.f l0_0 l0_1 l0_2 l0_3 l0_4 l1_0).bind fun t146 => (if t146 = 0 then ((week_Vars.f l0_0 l0_1 l0_2 l0_3 l0_4).bind fun t147 => (if 0 ≤ (wrap64 (t147 + 1)) then (if (wrap64 (t147 + 1) : Int).toNat ≤ 281474976710656 then (week_True.l0 k (List.replicate (wrap64 (t147 + 1) : Int).toNat false) l1_0 (l1_0.length : Int) 0 l0_0 l0_1 l0_2 l0_3 l0_4) else (none)) else (none))) else (some (([] : List Bool), t146)))) = some (r1, r2) := h
  clear h
  replace H := Option.bind_eq_some_iff.mp H
  obtain ⟨t146, A30, H⟩ := H
  replace H : (if t146 = 0 then ((week_Vars.f l0_0 l0_1 l0_2 l0_3 l0_4).bind fun t147 => (if 0 ≤ (wrap64 (t147 + 1)) then (if (wrap64 (t147 + 1) : Int).toNat ≤ 281474976710656 then (week_True.l0 k (List.replicate (wrap64 (t147 + 1) : Int).toNat false) l1_0 (l1_0.length : Int) 0 l0_0 l0_1 l0_2 l0_3 l0_4) else (none)) else (none))) else (some (([] : List Bool), t146))) = some (r1, r2) := H
  have A3 := Aside0.mk A30
  clear A30
  by_cases c4 : t146 = 0
  rotate_left
  · rw [if_neg c4] at H
    have c4b0 : (t146 == 0) = false := beq_eq_false_iff_ne.mpr c4
    have c4b1 : (t146 != 0) = true := bne_iff_ne.mpr c4
    simp only [Option.some.injEq, Prod.mk.injEq] at H
    obtain ⟨rfl, rfl⟩ := H
    go_enter Tryd.func21, Tryd.ntmps21
    go_wp2_with (first | ((with_reducible refine gate_dst (N := 2) rfl ?_); refine box_event ?hg (N := 2) ?hd (cs := #[.slice A0_0 l0_0.length c0_0, .slice A0_1 l0_1.length c0_1, .slice A0_2 l0_2.length c0_2, .slice A0_3 l0_3.length c0_3, .slice A0_4 l0_4.length c0_4]) (t := 45) ?hr ?_; (case hd => rfl); (case hg => rfl); (case hr => first | (go_simp; done) | (go_simp; rfl)); intro gb144 hg w41 hbox hb; have n0_ := Aside0.mk (below_step (b_ HB) hb); have n1_ := Aside0.mk (hbox); have n2_ := Aside0.mk ((by rw [hg]; exact (below_size (b_ HB)) : w.heap.size ≤ gb144)); have n3_ := n2_; clear HB; have HB := n0_; have BK144 := n1_; have GW144 := n2_; have GE144 := n3_; clear n0_ n1_ n2_ n3_; clear hb hbox hg) | ((with_reducible refine gate_dst (N := 3) rfl ?_); refine box_event ?hg (N := 3) ?hd (cs := #[.slice A1_0 l1_0.length c1_0]) (t := 24) ?hr ?_; (case hd => rfl); (case hg => rfl); (case hr => first | (go_simp; done) | (go_simp; rfl)); intro gb145 hg w42 hbox hb; have n0_ := Aside0.mk (blk_below (k_ BK144) hb); have n1_ := Aside0.mk (below_step (b_ HB) hb); have n2_ := Aside0.mk (hbox); have n3_ := Aside0.mk ((by rw [hg]; exact (below_size (b_ HB)) : w.heap.size ≤ gb145)); have n4_ := n3_; have n5_ := Aside0.mk ((by rw [hg]; exact Nat.ne_of_lt (blk_lt (k_ BK144)) : gb144 ≠ gb145)); have n6_ := Aside0.mk ((by rw [hg]; exact Nat.ne_of_gt (blk_lt (k_ BK144)) : gb145 ≠ gb144)); clear BK144; clear HB; have BK144 := n0_; have HB := n1_; have BK145 := n2_; have GW145 := n3_; have GE145 := n4_; have NB144_145 := n5_; have NB145_144 := n6_; clear n0_ n1_ n2_ n3_ n4_ n5_ n6_; clear hb hbox hg; have hnb43 := NB144_145.out; have hnc43 := NB145_144.out; have hcz44_0 : w42.cell? ⟨gb144, 0, none⟩ = some (.slice A0_0 l0_0.length c0_0) := (blk_cell BK144.out 0).trans rfl; have hcz44_1 : w42.cell? ⟨gb144, 1, none⟩ = some (.slice A0_1 l0_1.length c0_1) := (blk_cell BK144.out 1).trans rfl; have hcz44_2 : w42.cell? ⟨gb144, 2, none⟩ = some (.slice A0_2 l0_2.length c0_2) := (blk_cell BK144.out 2).trans rfl; have hcz44_3 : w42.cell? ⟨gb144, 3, none⟩ = some (.slice A0_3 l0_3.length c0_3) := (blk_cell BK144.out 3).trans rfl; have hcz44_4 : w42.cell? ⟨gb144, 4, none⟩ = some (.slice A0_4 l0_4.length c0_4) := (blk_cell BK144.out 4).trans rfl; have hfz44_0 := blk_frozen BK144.out 0; have hfz44_1 := blk_frozen BK144.out 1; have hfz44_2 := blk_frozen BK144.out 2; have hfz44_3 := blk_frozen BK144.out 3; have hfz44_4 := blk_frozen BK144.out 4; have hcz45_0 : w42.cell? ⟨gb145, 0, none⟩ = some (.slice A1_0 l1_0.length c1_0) := (blk_cell BK145.out 0).trans rfl; have hfz45_0 := blk_frozen BK145.out 0) | ((with_reducible refine gate_callee (f := 24) rfl ?_); refine goesL_ (some 12) rfl rfl Tryd.func24 (by kernel_rfl) rfl #[.agg #[.slice A0_0 l0_0.length c0_0, .slice A0_1 l0_1.length c0_1, .slice A0_2 l0_2.length c0_2, .slice A0_3 l0_3.length c0_3, .slice A0_4 l0_4.length c0_4], .agg #[.slice A1_0 l1_0.length c1_0]] rfl (by (try simp only [List.map_toArray, List.map_cons, List.map_nil]); first | done | rfl | (simp only [List.length_drop, List.length_take]; rfl)) ?_; (with_reducible refine (week_Check.calls _ _ l0_0 _ _ l0_1 _ _ l0_2 _ _ l0_3 _ _ l0_4 _ _ l1_0 t146 _ ?side1 ?side2 ?side3 ?side4 ?side5 ?side6 ?side7 ?side8 ?side9 ?side10 ?side11 ?side12 ?sideV A3.out).mono ?_); (case sideV => exact VOk.below HV.out (b_ HB)); (case side1 => repeat (first | exact (Kd.C_below HR0_0.out HB.out) | (with_reducible refine Kd.C_alloc ?_ _) | (with_reducible refine Kd.C_drewN ?_ _) | (with_reducible refine Kd.C_drew ?_))); (case side2 => exact HC0_0.out); (case side3 => repeat (first | exact (Kd.C_below HR0_1.out HB.out) | (with_reducible refine Kd.C_alloc ?_ _) | (with_reducible refine Kd.C_drewN ?_ _) | (with_reducible refine Kd.C_drew ?_))); (case side4 => exact HC0_1.out); (case side5 => repeat (first | exact (Kd.C_below HR0_2.out HB.out) | (with_reducible refine Kd.C_alloc ?_ _) | (with_reducible refine Kd.C_drewN ?_ _) | (with_reducible refine Kd.C_drew ?_))); (case side6 => exact HC0_2.out); (case side7 => repeat (first | exact (Kd.C_below HR0_3.out HB.out) | (with_reducible refine Kd.C_alloc ?_ _) | (with_reducible refine Kd.C_drewN ?_ _) | (with_reducible refine Kd.C_drew ?_))); (case side8 => exact HC0_3.out); (case side9 => repeat (first | exact (Kd.C_below HR0_4.out HB.out) | (with_reducible refine Kd.C_alloc ?_ _) | (with_reducible refine Kd.C_drewN ?_ _) | (with_reducible refine Kd.C_drew ?_))); (case side10 => exact HC0_4.out); (case side11 => repeat (first | exact (Kd.C_below HR1_0.out HB.out) | (with_reducible refine Kd.C_alloc ?_ _) | (with_reducible refine Kd.C_drewN ?_ _) | (with_reducible refine Kd.C_drew ?_))); (case side12 => exact HC1_0.out); rintro e w46 ⟨rfl, hb⟩; refine ⟨_, rfl, ?_⟩; have n0_ := Aside0.mk (blk_below (k_ BK144) hb); have n1_ := Aside0.mk (blk_below (k_ BK145) hb); have n2_ := Aside0.mk (below_step (b_ HB) hb); clear BK144; clear BK145; clear HB; have BK144 := n0_; have BK145 := n1_; have HB := n2_; clear n0_ n1_ n2_; (try clear hb); (try clear hb2); (try clear hk); (try clear hi)))
    go_ret2
    exact ⟨_, by first | rfl | (simp [errW_none, errW_some] <;> rfl) | (simp [*, errW_none, errW_some] <;> rfl), by first | exact Kd.R_nil _ _ _ _ _ | exact Kd.N_nil _ _ _ _ _ | exact Kd.V_nil _ _ _ _ _ | exact Kd.Q_nil _ _ _ _ _ | exact Kd.S_nil _ _ _ _ _, b_ HB⟩
  rw [if_pos c4] at H
  have c4b0 : (t146 == 0) = true := beq_iff_eq.mpr c4
  have c4b1 : (t146 != 0) = false := bne_eq_false_iff_eq.mpr c4
  clear c4
  replace H := Option.bind_eq_some_iff.mp H
  obtain ⟨t147, A50, H⟩ := H
  replace H : (if 0 ≤ (wrap64 (t147 + 1)) then (if (wrap64 (t147 + 1) : Int).toNat ≤ 281474976710656 then (week_True.l0 k (List.replicate (wrap64 (t147 + 1) : Int).toNat false) l1_0 (l1_0.length : Int) 0 l0_0 l0_1 l0_2 l0_3 l0_4) else (none)) else (none)) = some (r1, r2) := H
  have A5 := Aside0.mk A50
  clear A50
  obtain ⟨ji6, hji6⟩ : ∃ j_ : Int, (wrap64 (t147 + 1)) = j_ := ⟨_, rfl⟩
  replace H : (if 0 ≤ (ji6) then (if (ji6 : Int).toNat ≤ 281474976710656 then (week_True.l0 k (List.replicate (ji6 : Int).toNat false) l1_0 (l1_0.length : Int) 0 l0_0 l0_1 l0_2 l0_3 l0_4) else (none)) else (none)) = some (r1, r2) := by first | (rw [hji6] at H; exact H) | (simp only [hji6] at H ⊢; exact H)
  (try rw [hji6] at A3)
  (try rw [hji6] at A5)
  have hji6w : (IntKind.i64.wrap (t147 + 1)) = ji6 := (i64_w _).trans hji6
  by_cases c7 : 0 ≤ (ji6)
  rotate_left
  · rw [if_neg c7] at H
    exact absurd H (by simp)
  rw [if_pos c7] at H
  have c7b0 := eq_true c7
  have c7b1 : decide (0 ≤ (ji6)) = true := decide_eq_true c7
  clear c7
  by_cases c8 : (ji6 : Int).toNat ≤ 281474976710656
  rotate_left
  · rw [if_neg c8] at H
    exact absurd H (by simp)
  rw [if_pos c8] at H
  have c8b0 := eq_true c8
  have c8b1 : decide ((ji6 : Int).toNat ≤ 281474976710656) = true := decide_eq_true c8
  clear c8
  obtain ⟨y148, hy148⟩ : ∃ y_ : List Bool, y_ = (List.replicate (ji6 : Int).toNat false) := ⟨_, rfl⟩
  replace H : (week_True.l0 k y148 l1_0 (l1_0.length : Int) 0 l0_0 l0_1 l0_2 l0_3 l0_4) = some (r1, r2) := by first | (rw [hy148]; with_reducible exact H) | (have H2_ := (Option.bind_some _ _).symm.trans H; rw [hy148]; with_reducible exact H2_) | (have H2_ := (Option.bind_some _ _).symm.trans H; with_reducible exact H2_) | with_reducible exact H | (rw [hy148]; exact H) | exact H
  have Ny148 := Aside0.mk hy148
  clear hy148
  have H' := Aside0.mk H
  clear H
  go_enter Tryd.func21, Tryd.ntmps21
  go_wp2_with (first | ((with_reducible refine gate_dst (N := 2) rfl ?_); refine box_event ?hg (N := 2) ?hd (cs := #[.slice A0_0 l0_0.length c0_0, .slice A0_1 l0_1.length c0_1, .slice A0_2 l0_2.length c0_2, .slice A0_3 l0_3.length c0_3, .slice A0_4 l0_4.length c0_4]) (t := 45) ?hr ?_; (case hd => rfl); (case hg => rfl); (case hr => first | (go_simp; done) | (go_simp; rfl)); intro gb144 hg w9 hbox hb; have n0_ := Aside0.mk (below_step (b_ HB) hb); have n1_ := Aside0.mk (hbox); have n2_ := Aside0.mk ((by rw [hg]; exact (below_size (b_ HB)) : w.heap.size ≤ gb144)); have n3_ := n2_; clear HB; have HB := n0_; have BK144 := n1_; have GW144 := n2_; have GE144 := n3_; clear n0_ n1_ n2_ n3_; clear hb hbox hg) | ((with_reducible refine gate_dst (N := 3) rfl ?_); refine box_event ?hg (N := 3) ?hd (cs := #[.slice A1_0 l1_0.length c1_0]) (t := 24) ?hr ?_; (case hd => rfl); (case hg => rfl); (case hr => first | (go_simp; done) | (go_simp; rfl)); intro gb145 hg w10 hbox hb; have n0_ := Aside0.mk (blk_below (k_ BK144) hb); have n1_ := Aside0.mk (below_step (b_ HB) hb); have n2_ := Aside0.mk (hbox); have n3_ := Aside0.mk ((by rw [hg]; exact (below_size (b_ HB)) : w.heap.size ≤ gb145)); have n4_ := n3_; have n5_ := Aside0.mk ((by rw [hg]; exact Nat.ne_of_lt (blk_lt (k_ BK144)) : gb144 ≠ gb145)); have n6_ := Aside0.mk ((by rw [hg]; exact Nat.ne_of_gt (blk_lt (k_ BK144)) : gb145 ≠ gb144)); clear BK144; clear HB; have BK144 := n0_; have HB := n1_; have BK145 := n2_; have GW145 := n3_; have GE145 := n4_; have NB144_145 := n5_; have NB145_144 := n6_; clear n0_ n1_ n2_ n3_ n4_ n5_ n6_; clear hb hbox hg; have hnb11 := NB144_145.out; have hnc11 := NB145_144.out; have hcz12_0 : w10.cell? ⟨gb144, 0, none⟩ = some (.slice A0_0 l0_0.length c0_0) := (blk_cell BK144.out 0).trans rfl; have hcz12_1 : w10.cell? ⟨gb144, 1, none⟩ = some (.slice A0_1 l0_1.length c0_1) := (blk_cell BK144.out 1).trans rfl; have hcz12_2 : w10.cell? ⟨gb144, 2, none⟩ = some (.slice A0_2 l0_2.length c0_2) := (blk_cell BK144.out 2).trans rfl; have hcz12_3 : w10.cell? ⟨gb144, 3, none⟩ = some (.slice A0_3 l0_3.length c0_3) := (blk_cell BK144.out 3).trans rfl; have hcz12_4 : w10.cell? ⟨gb144, 4, none⟩ = some (.slice A0_4 l0_4.length c0_4) := (blk_cell BK144.out 4).trans rfl; have hfz12_0 := blk_frozen BK144.out 0; have hfz12_1 := blk_frozen BK144.out 1; have hfz12_2 := blk_frozen BK144.out 2; have hfz12_3 := blk_frozen BK144.out 3; have hfz12_4 := blk_frozen BK144.out 4; have hcz13_0 : w10.cell? ⟨gb145, 0, none⟩ = some (.slice A1_0 l1_0.length c1_0) := (blk_cell BK145.out 0).trans rfl; have hfz13_0 := blk_frozen BK145.out 0) | ((with_reducible refine gate_callee (f := 24) rfl ?_); refine goesL_ (some 12) rfl rfl Tryd.func24 (by kernel_rfl) rfl #[.agg #[.slice A0_0 l0_0.length c0_0, .slice A0_1 l0_1.length c0_1, .slice A0_2 l0_2.length c0_2, .slice A0_3 l0_3.length c0_3, .slice A0_4 l0_4.length c0_4], .agg #[.slice A1_0 l1_0.length c1_0]] rfl (by (try simp only [List.map_toArray, List.map_cons, List.map_nil]); first | done | rfl | (simp only [List.length_drop, List.length_take]; rfl)) ?_; (with_reducible refine (week_Check.calls _ _ l0_0 _ _ l0_1 _ _ l0_2 _ _ l0_3 _ _ l0_4 _ _ l1_0 t146 _ ?side1 ?side2 ?side3 ?side4 ?side5 ?side6 ?side7 ?side8 ?side9 ?side10 ?side11 ?side12 ?sideV A3.out).mono ?_); (case sideV => exact VOk.below HV.out (b_ HB)); (case side1 => repeat (first | exact (Kd.C_below HR0_0.out HB.out) | (with_reducible refine Kd.C_alloc ?_ _) | (with_reducible refine Kd.C_drewN ?_ _) | (with_reducible refine Kd.C_drew ?_))); (case side2 => exact HC0_0.out); (case side3 => repeat (first | exact (Kd.C_below HR0_1.out HB.out) | (with_reducible refine Kd.C_alloc ?_ _) | (with_reducible refine Kd.C_drewN ?_ _) | (with_reducible refine Kd.C_drew ?_))); (case side4 => exact HC0_1.out); (case side5 => repeat (first | exact (Kd.C_below HR0_2.out HB.out) | (with_reducible refine Kd.C_alloc ?_ _) | (with_reducible refine Kd.C_drewN ?_ _) | (with_reducible refine Kd.C_drew ?_))); (case side6 => exact HC0_2.out); (case side7 => repeat (first | exact (Kd.C_below HR0_3.out HB.out) | (with_reducible refine Kd.C_alloc ?_ _) | (with_reducible refine Kd.C_drewN ?_ _) | (with_reducible refine Kd.C_drew ?_))); (case side8 => exact HC0_3.out); (case side9 => repeat (first | exact (Kd.C_below HR0_4.out HB.out) | (with_reducible refine Kd.C_alloc ?_ _) | (with_reducible refine Kd.C_drewN ?_ _) | (with_reducible refine Kd.C_drew ?_))); (case side10 => exact HC0_4.out); (case side11 => repeat (first | exact (Kd.C_below HR1_0.out HB.out) | (with_reducible refine Kd.C_alloc ?_ _) | (with_reducible refine Kd.C_drewN ?_ _) | (with_reducible refine Kd.C_drew ?_))); (case side12 => exact HC1_0.out); rintro e w14 ⟨rfl, hb⟩; refine ⟨_, rfl, ?_⟩; have n0_ := Aside0.mk (blk_below (k_ BK144) hb); have n1_ := Aside0.mk (blk_below (k_ BK145) hb); have n2_ := Aside0.mk (below_step (b_ HB) hb); clear BK144; clear BK145; clear HB; have BK144 := n0_; have BK145 := n1_; have HB := n2_; clear n0_ n1_ n2_; (try clear hb); (try clear hb2); (try clear hk); (try clear hi); have hcz15_0 : w14.cell? ⟨gb144, 0, none⟩ = some (.slice A0_0 l0_0.length c0_0) := (blk_cell BK144.out 0).trans rfl; have hcz15_1 : w14.cell? ⟨gb144, 1, none⟩ = some (.slice A0_1 l0_1.length c0_1) := (blk_cell BK144.out 1).trans rfl; have hcz15_2 : w14.cell? ⟨gb144, 2, none⟩ = some (.slice A0_2 l0_2.length c0_2) := (blk_cell BK144.out 2).trans rfl; have hcz15_3 : w14.cell? ⟨gb144, 3, none⟩ = some (.slice A0_3 l0_3.length c0_3) := (blk_cell BK144.out 3).trans rfl; have hcz15_4 : w14.cell? ⟨gb144, 4, none⟩ = some (.slice A0_4 l0_4.length c0_4) := (blk_cell BK144.out 4).trans rfl; have hfz15_0 := blk_frozen BK144.out 0; have hfz15_1 := blk_frozen BK144.out 1; have hfz15_2 := blk_frozen BK144.out 2; have hfz15_3 := blk_frozen BK144.out 3; have hfz15_4 := blk_frozen BK144.out 4) | ((with_reducible refine gate_callee (f := 23) rfl ?_); refine goesL_ (some 17) rfl rfl Tryd.func23 (by kernel_rfl) rfl #[.agg #[.slice A0_0 l0_0.length c0_0, .slice A0_1 l0_1.length c0_1, .slice A0_2 l0_2.length c0_2, .slice A0_3 l0_3.length c0_3, .slice A0_4 l0_4.length c0_4]] rfl (by (try simp only [List.map_toArray, List.map_cons, List.map_nil]); first | done | rfl | (simp only [List.length_drop, List.length_take]; rfl)) ?_; (with_reducible refine (week_Vars.calls _ _ l0_0 _ _ l0_1 _ _ l0_2 _ _ l0_3 _ _ l0_4 t147 _ ?side1 ?side2 ?side3 ?side4 ?side5 ?side6 ?side7 ?side8 ?side9 ?side10 A5.out).mono ?_); (case side1 => repeat (first | exact (Kd.C_below HR0_0.out HB.out) | (with_reducible refine Kd.C_alloc ?_ _) | (with_reducible refine Kd.C_drewN ?_ _) | (with_reducible refine Kd.C_drew ?_))); (case side2 => exact HC0_0.out); (case side3 => repeat (first | exact (Kd.C_below HR0_1.out HB.out) | (with_reducible refine Kd.C_alloc ?_ _) | (with_reducible refine Kd.C_drewN ?_ _) | (with_reducible refine Kd.C_drew ?_))); (case side4 => exact HC0_1.out); (case side5 => repeat (first | exact (Kd.C_below HR0_2.out HB.out) | (with_reducible refine Kd.C_alloc ?_ _) | (with_reducible refine Kd.C_drewN ?_ _) | (with_reducible refine Kd.C_drew ?_))); (case side6 => exact HC0_2.out); (case side7 => repeat (first | exact (Kd.C_below HR0_3.out HB.out) | (with_reducible refine Kd.C_alloc ?_ _) | (with_reducible refine Kd.C_drewN ?_ _) | (with_reducible refine Kd.C_drew ?_))); (case side8 => exact HC0_3.out); (case side9 => repeat (first | exact (Kd.C_below HR0_4.out HB.out) | (with_reducible refine Kd.C_alloc ?_ _) | (with_reducible refine Kd.C_drewN ?_ _) | (with_reducible refine Kd.C_drew ?_))); (case side10 => exact HC0_4.out); rintro e w16 ⟨rfl, hb⟩; refine ⟨_, rfl, ?_⟩; have n0_ := Aside0.mk (blk_below (k_ BK144) hb); have n1_ := Aside0.mk (blk_below (k_ BK145) hb); have n2_ := Aside0.mk (below_step (b_ HB) hb); clear BK144; clear BK145; clear HB; have BK144 := n0_; have BK145 := n1_; have HB := n2_; clear n0_ n1_ n2_; (try clear hb); (try clear hb2); (try clear hk); (try clear hi)) | ((with_reducible refine gate_dst (N := 19) rfl ?_); refine Kd.R_make Kd.bool _ 4 rfl (N := 19) rfl 46 _ _ rfl ji6 rfl rfl Tryd.underlying46 (.bool false) 1 info4 rfl (by decide) (by omega) false (ok := fun _ => True) (okp := fun _ => True) rfl (fun _ hk => hk) trivial (of_decide_eq_true (by first | (with_reducible assumption) | assumption)) (Nat.le_trans (Nat.mul_le_mul_right _ (of_decide_eq_true (by first | (with_reducible assumption) | assumption) : ji6.toNat ≤ 281474976710656)) (by omega)) (Below.refl _ _) (Nat.le_refl _) ?_; intro v149 w17 ho18 hb hg_ hnew_; clear hg_ hnew_; (first | rw [← Ny148.out] at ho18 | (simp only [Int.reduceToNat] at ho18; rw [← Ny148.out] at ho18)); have n0_ := Aside0.mk (Kd.R_lower ho18 (below_size (b_ HB))); have n1_ := Aside0.mk (blk_below (k_ BK144) hb); have n2_ := Aside0.mk (blk_below (k_ BK145) hb); have n3_ := Aside0.mk (below_step (b_ HB) hb); clear BK144; clear BK145; clear HB; have HO150 := n0_; have BK144 := n1_; have BK145 := n2_; have HB := n3_; clear n0_ n1_ n2_ n3_; clear hb ho18; have hcz19_0 : w17.cell? ⟨gb145, 0, none⟩ = some (.slice A1_0 l1_0.length c1_0) := (blk_cell BK145.out 0).trans rfl; have hfz19_0 := blk_frozen BK145.out 0))
  go_loopg [23] k (fun kq v23 w' => ∃ (x7_1 : List Bool) (x23_1 : Int), v23 = .int .i64 x23_1 ∧ Aside0 (week_True.l0 kq x7_1 l1_0 (l1_0.length : Int) x23_1 l0_0 l0_1 l0_2 l0_3 l0_4 = some (r1, r2)) ∧ Aside0 (kq ≤ k) ∧ Aside0 (Kd.R Kd.bool 4 w' w.heap.size (fun _ => True) v149 x7_1) ∧ Aside0 (w'.heap[gb144]? = some (.cells #[(.slice A0_0 l0_0.length c0_0), (.slice A0_1 l0_1.length c0_1), (.slice A0_2 l0_2.length c0_2), (.slice A0_3 l0_3.length c0_3), (.slice A0_4 l0_4.length c0_4)] 45 (0, 0))) ∧ Aside0 (w'.heap[gb145]? = some (.cells #[(.slice A1_0 l1_0.length c1_0)] 24 (0, 0))) ∧ Aside0 (Below w.heap.size w w'))
  case atStart => exact ⟨(y148), (0), (by first | rfl | (simp; done) | (simp [*]; done)), H', ⟨Nat.le_refl _⟩, ⟨by (with_reducible repeat (first | apply Kd.R_alloc | apply Kd.R_drewN | apply Kd.R_drew)); exact HO150.out⟩, ⟨k_ BK144⟩, ⟨k_ BK145⟩, ⟨b_ HB⟩⟩
  case round =>
    clear H'
    (try clear c4); (try clear c4b0); (try clear c4b1); (try clear c7); (try clear c7b0); (try clear c7b1); (try clear c8); (try clear c8b0); (try clear c8b1); (try clear hcz12_0); (try clear hcz12_1); (try clear hcz12_2); (try clear hcz12_3); (try clear hcz12_4); (try clear hcz13_0); (try clear hcz15_0); (try clear hcz15_1); (try clear hcz15_2); (try clear hcz15_3); (try clear hcz15_4); (try clear hcz19_0); (try clear hfz12_0); (try clear hfz12_1); (try clear hfz12_2); (try clear hfz12_3); (try clear hfz12_4); (try clear hfz13_0); (try clear hfz15_0); (try clear hfz15_1); (try clear hfz15_2); (try clear hfz15_3); (try clear hfz15_4); (try clear hfz19_0)
    obtain ⟨x7_1, x23_1, rfl, HA, HK1, HO_7, BK144, BK145, HB⟩ := hrel
    cases gk with
    | zero => exact absurd HA.out (by simp [week_True.l0])
    | succ k1 =>
      have H := HA.out
      clear HA
      simp only [week_True.l0] at H
      by_cases c20 : x23_1 < (l1_0.length : Int)
      rotate_left
      · rw [if_neg c20] at H
        have c20b0 : decide (x23_1 < (l1_0.length : Int)) = false := decide_eq_false c20
        clear c20
        simp only [Option.some.injEq, Prod.mk.injEq] at H
        obtain ⟨rfl, rfl⟩ := H
        go_wp2
        go_ret2
        exact ⟨_, by first | rfl | (simp [errW_none, errW_some] <;> rfl) | (simp only [← hji6]; first | rfl | (simp [errW_none, errW_some] <;> rfl)) | (simp [*, errW_none, errW_some] <;> rfl), by (with_reducible repeat (first | apply Kd.R_alloc | apply Kd.R_drewN | apply Kd.R_drew)); exact HO_7.out, b_ HB⟩
      rw [if_pos c20] at H
      have c20b0 : decide (x23_1 < (l1_0.length : Int)) = true := decide_eq_true c20
      clear c20
      by_cases c21 : 0 ≤ x23_1
      rotate_left
      · rw [if_neg c21] at H
        exact absurd H (by simp)
      rw [if_pos c21] at H
      have c21b0 : decide (0 ≤ x23_1) = true := decide_eq_true c21
      clear c21
      by_cases c22 : x23_1 < (l1_0.length : Int)
      rotate_left
      · rw [if_neg c22] at H
        exact absurd H (by simp)
      rw [if_pos c22] at H
      have c22b0 : decide (x23_1 < (l1_0.length : Int)) = true := decide_eq_true c22
      clear c22
      replace H := Option.bind_eq_some_iff.mp H
      obtain ⟨t153, A230, H⟩ := H
      replace H : ((week_In.f l0_0 l0_1 l0_2 l0_3 l0_4 x23_1 ((rd_T55 l1_0 x23_1).f1)).bind fun t154 => (if 0 ≤ t153 then (if t153 < (x7_1.length : Int) then (if 0 ≤ t154 then (if t154 < (x7_1.length : Int) then (week_True.l0 k1 ((x7_1.set (t153 : Int).toNat true).set (t154 : Int).toNat true) l1_0 (l1_0.length : Int) (wrap64 (x23_1 + 1)) l0_0 l0_1 l0_2 l0_3 l0_4) else (none)) else (none)) else (none)) else (none))) = some (r1, r2) := H
      have A23 := Aside0.mk A230
      clear A230
      replace H := Option.bind_eq_some_iff.mp H
      obtain ⟨t154, A240, H⟩ := H
      replace H : (if 0 ≤ t153 then (if t153 < (x7_1.length : Int) then (if 0 ≤ t154 then (if t154 < (x7_1.length : Int) then (week_True.l0 k1 ((x7_1.set (t153 : Int).toNat true).set (t154 : Int).toNat true) l1_0 (l1_0.length : Int) (wrap64 (x23_1 + 1)) l0_0 l0_1 l0_2 l0_3 l0_4) else (none)) else (none)) else (none)) else (none)) = some (r1, r2) := H
      have A24 := Aside0.mk A240
      clear A240
      by_cases c25 : 0 ≤ t153
      rotate_left
      · rw [if_neg c25] at H
        exact absurd H (by simp)
      rw [if_pos c25] at H
      have c25b0 : decide (0 ≤ t153) = true := decide_eq_true c25
      clear c25
      by_cases c26 : t153 < (x7_1.length : Int)
      rotate_left
      · rw [if_neg c26] at H
        exact absurd H (by simp)
      rw [if_pos c26] at H
      have c26b0 : decide (t153 < (x7_1.length : Int)) = true := decide_eq_true c26
      clear c26
      obtain ⟨y155, hy155⟩ : ∃ y_ : List Bool, y_ = (x7_1.set (t153 : Int).toNat true) := ⟨_, rfl⟩
      replace H : (if 0 ≤ t154 then (if t154 < (x7_1.length : Int) then (week_True.l0 k1 (y155.set (t154 : Int).toNat true) l1_0 (l1_0.length : Int) (wrap64 (x23_1 + 1)) l0_0 l0_1 l0_2 l0_3 l0_4) else (none)) else (none)) = some (r1, r2) := by first | (rw [hy155]; with_reducible exact H) | (have H2_ := (Option.bind_some _ _).symm.trans H; rw [hy155]; with_reducible exact H2_) | (have H2_ := (Option.bind_some _ _).symm.trans H; with_reducible exact H2_) | with_reducible exact H | (rw [hy155]; exact H) | exact H
      have Ny155 := Aside0.mk hy155
      clear hy155
      by_cases c28 : 0 ≤ t154
      rotate_left
      · rw [if_neg c28] at H
        exact absurd H (by simp)
      rw [if_pos c28] at H
      have c28b0 : decide (0 ≤ t154) = true := decide_eq_true c28
      clear c28
      by_cases c29 : t154 < (x7_1.length : Int)
      rotate_left
      · rw [if_neg c29] at H
        exact absurd H (by simp)
      rw [if_pos c29] at H
      have c29b0 : decide (t154 < (x7_1.length : Int)) = true := decide_eq_true c29
      clear c29
      obtain ⟨y156, hy156⟩ : ∃ y_ : List Bool, y_ = (y155.set (t154 : Int).toNat true) := ⟨_, rfl⟩
      replace H : (week_True.l0 k1 y156 l1_0 (l1_0.length : Int) (wrap64 (x23_1 + 1)) l0_0 l0_1 l0_2 l0_3 l0_4) = some (r1, r2) := by first | (rw [hy156]; with_reducible exact H) | (have H2_ := (Option.bind_some _ _).symm.trans H; rw [hy156]; with_reducible exact H2_) | (have H2_ := (Option.bind_some _ _).symm.trans H; with_reducible exact H2_) | with_reducible exact H | (rw [hy156]; exact H) | exact H
      have Ny156 := Aside0.mk hy156
      clear hy156
      have H' := Aside0.mk H
      clear H
      have p151 : 0 ≤ (x23_1 : Int) := of_decide_eq_true (by first | (with_reducible assumption) | assumption)
      have q151 : x23_1 < (l1_0.length : Int) := of_decide_eq_true (by first | (with_reducible assumption) | assumption)
      obtain ⟨ad151, e151, hx151_0, hx151_1⟩ := at_T55 HR1_0.out x23_1 p151 q151
      cases e151
      replace hx151_0 := (HB.out.cell (World.block_lt_of_cell? w _ hx151_0)).trans hx151_0
      replace hx151_1 := (HB.out.cell (World.block_lt_of_cell? w _ hx151_1)).trans hx151_1
      replace p151 := eq_true p151
      replace q151 := eq_true q151
      try go_wp2_with (first | ((with_reducible refine gate_dst (N := 9) rfl ?_); refine box_event ?hg (N := 9) ?hd (cs := #[.int .i64 0, .int .i64 0]) (t := 55) ?hr ?_; (case hd => rfl); (case hg => rfl); (case hr => first | (go_simp; done) | (go_simp; rfl)); intro gb152 hg w31 hbox hb; have n0_ := Aside0.mk (Kd.R_below (r_ HO_7) hb); have n1_ := Aside0.mk (blk_below (k_ BK144) hb); have n2_ := Aside0.mk (blk_below (k_ BK145) hb); have n3_ := Aside0.mk (below_step (b_ HB) hb); have n4_ := Aside0.mk (hbox); have n5_ := Aside0.mk ((by rw [hg]; exact (below_size (b_ HB)) : w.heap.size ≤ gb152)); have n6_ := n5_; have n7_ := Aside0.mk ((by rw [hg]; exact Nat.ne_of_lt (blk_lt (k_ BK144)) : gb144 ≠ gb152)); have n8_ := Aside0.mk ((by rw [hg]; exact Nat.ne_of_gt (blk_lt (k_ BK144)) : gb152 ≠ gb144)); have n9_ := Aside0.mk ((by rw [hg]; exact Nat.ne_of_lt (blk_lt (k_ BK145)) : gb145 ≠ gb152)); have n10_ := Aside0.mk ((by rw [hg]; exact Nat.ne_of_gt (blk_lt (k_ BK145)) : gb152 ≠ gb145)); clear HO_7; clear BK144; clear BK145; clear HB; have HO_7 := n0_; have BK144 := n1_; have BK145 := n2_; have HB := n3_; have BK152 := n4_; have GW152 := n5_; have GE152 := n6_; have NB144_152 := n7_; have NB152_144 := n8_; have NB145_152 := n9_; have NB152_145 := n10_; clear n0_ n1_ n2_ n3_ n4_ n5_ n6_ n7_ n8_ n9_ n10_; clear hb hbox hg; have hnb32 := NB152_144.out; have hnc32 := NB144_152.out; have hnb33 := NB152_145.out; have hnc33 := NB145_152.out; have hcz34_0 : w31.cell? ⟨gb152, 0, none⟩ = some (.int .i64 0) := (blk_cell BK152.out 0).trans rfl; have hcz34_1 : w31.cell? ⟨gb152, 1, none⟩ = some (.int .i64 0) := (blk_cell BK152.out 1).trans rfl; have hfz34_0 := blk_frozen BK152.out 0; have hfz34_1 := blk_frozen BK152.out 1))
      have n0_ : Aside0 (Kd.R Kd.bool 4 ((w31.setCell ⟨gb152, 0, none⟩ (.int .i64 ((rd_T55 l1_0 x23_1).f0))).setCell ⟨gb152, 1, none⟩ (.int .i64 ((rd_T55 l1_0 x23_1).f1))) w.heap.size (fun _ => True) v149 x7_1) := ⟨by (with_reducible repeat (first | apply Kd.R_alloc | apply Kd.R_drewN | apply Kd.R_drew)); exact Kd.R_mono (Kd.R_far (p := ⟨gb152, 1, none⟩) (Kd.R_far (p := ⟨gb152, 0, none⟩) (Kd.R_types HO_7.out BK152.out (by decide)) (fun _ hk => hk.2) (.int .i64 ((rd_T55 l1_0 x23_1).f0))) (fun _ hk => hk.2) (.int .i64 ((rd_T55 l1_0 x23_1).f1))) (fun _ hk => trivial)⟩
      have n1_ : Aside0 (((w31.setCell ⟨gb152, 0, none⟩ (.int .i64 ((rd_T55 l1_0 x23_1).f0))).setCell ⟨gb152, 1, none⟩ (.int .i64 ((rd_T55 l1_0 x23_1).f1))).heap[gb144]? = some (.cells #[.slice A0_0 l0_0.length c0_0, .slice A0_1 l0_1.length c0_1, .slice A0_2 l0_2.length c0_2, .slice A0_3 l0_3.length c0_3, .slice A0_4 l0_4.length c0_4] 45 (0, 0))) := ⟨by (with_reducible repeat (first | refine blk_drewN ?_ _ | refine blk_drew ?_ | refine blk_alloc ?_ _)); refine blk_far ?_ NB144_152.out _; (with_reducible repeat (first | refine blk_drewN ?_ _ | refine blk_drew ?_ | refine blk_alloc ?_ _)); refine blk_far ?_ NB144_152.out _; (with_reducible repeat (first | refine blk_drewN ?_ _ | refine blk_drew ?_ | refine blk_alloc ?_ _)); exact BK144.out⟩
      have n2_ : Aside0 (((w31.setCell ⟨gb152, 0, none⟩ (.int .i64 ((rd_T55 l1_0 x23_1).f0))).setCell ⟨gb152, 1, none⟩ (.int .i64 ((rd_T55 l1_0 x23_1).f1))).heap[gb145]? = some (.cells #[.slice (some ad151) l1_0.length c1_0] 24 (0, 0))) := ⟨by (with_reducible repeat (first | refine blk_drewN ?_ _ | refine blk_drew ?_ | refine blk_alloc ?_ _)); refine blk_far ?_ NB145_152.out _; (with_reducible repeat (first | refine blk_drewN ?_ _ | refine blk_drew ?_ | refine blk_alloc ?_ _)); refine blk_far ?_ NB145_152.out _; (with_reducible repeat (first | refine blk_drewN ?_ _ | refine blk_drew ?_ | refine blk_alloc ?_ _)); exact BK145.out⟩
      have n3_ : Aside0 (((w31.setCell ⟨gb152, 0, none⟩ (.int .i64 ((rd_T55 l1_0 x23_1).f0))).setCell ⟨gb152, 1, none⟩ (.int .i64 ((rd_T55 l1_0 x23_1).f1))).heap[gb152]? = some (.cells #[.int .i64 ((rd_T55 l1_0 x23_1).f0), .int .i64 ((rd_T55 l1_0 x23_1).f1)] 55 (0, 0))) := ⟨by (with_reducible repeat (first | refine blk_drewN ?_ _ | refine blk_drew ?_ | refine blk_alloc ?_ _)); refine blk_put (cs := #[.int .i64 ((rd_T55 l1_0 x23_1).f0), .int .i64 0]) ?_ 1 _ rfl; (with_reducible repeat (first | refine blk_drewN ?_ _ | refine blk_drew ?_ | refine blk_alloc ?_ _)); refine blk_put (cs := #[.int .i64 0, .int .i64 0]) ?_ 0 _ rfl; (with_reducible repeat (first | refine blk_drewN ?_ _ | refine blk_drew ?_ | refine blk_alloc ?_ _)); exact BK152.out⟩
      have n4_ : Aside0 (Below w.heap.size w ((w31.setCell ⟨gb152, 0, none⟩ (.int .i64 ((rd_T55 l1_0 x23_1).f0))).setCell ⟨gb152, 1, none⟩ (.int .i64 ((rd_T55 l1_0 x23_1).f1)))) := ⟨b_ HB⟩
      (try clear HO_7); (try clear BK144); (try clear BK145); (try clear BK152); (try clear HB)
      generalize ((w31.setCell ⟨gb152, 0, none⟩ (.int .i64 ((rd_T55 l1_0 x23_1).f0))).setCell ⟨gb152, 1, none⟩ (.int .i64 ((rd_T55 l1_0 x23_1).f1))) = w35 at n0_ n1_ n2_ n3_ n4_ ⊢
      have HO_7 := n0_; have BK144 := n1_; have BK145 := n2_; have BK152 := n3_; have HB := n4_
      clear n0_ n1_ n2_ n3_ n4_
      have n0_ := Aside0.mk (Kd.R_drew HO_7.out)
      have n1_ := Aside0.mk (blk_drew BK144.out)
      have n2_ := Aside0.mk (blk_drew BK145.out)
      have n3_ := Aside0.mk (blk_drew BK152.out)
      have n4_ := Aside0.mk (below_drew1 HB.out)
      clear HO_7 BK144 BK145 BK152 HB
      have HO_7 := n0_; have BK144 := n1_; have BK145 := n2_; have BK152 := n3_; have HB := n4_
      clear n0_ n1_ n2_ n3_ n4_
      refine start_ (n := 16) (S := fun w' => w'.cell? ⟨gb144, 0, none⟩ = some (.slice A0_0 l0_0.length c0_0) ∧ w'.cell? ⟨gb144, 1, none⟩ = some (.slice A0_1 l0_1.length c0_1) ∧ w'.cell? ⟨gb144, 2, none⟩ = some (.slice A0_2 l0_2.length c0_2) ∧ w'.cell? ⟨gb144, 3, none⟩ = some (.slice A0_3 l0_3.length c0_3) ∧ w'.cell? ⟨gb144, 4, none⟩ = some (.slice A0_4 l0_4.length c0_4) ∧ w'.cell? ⟨gb152, 0, none⟩ = some (.int .i64 ((rd_T55 l1_0 x23_1).f0)) ∧ w'.cell? ⟨gb152, 1, none⟩ = some (.int .i64 ((rd_T55 l1_0 x23_1).f1))) (ds := [13, 15]) #[false, false, false, false, false, false, false, false, false, false, false, false, false, false, false, false] (by kernel_rfl) rfl rfl ⟨(blk_cell BK144.out 0).trans rfl, (blk_cell BK144.out 1).trans rfl, (blk_cell BK144.out 2).trans rfl, (blk_cell BK144.out 3).trans rfl, (blk_cell BK144.out 4).trans rfl, (blk_cell BK152.out 0).trans rfl, (blk_cell BK152.out 1).trans rfl⟩ (fun hHeld => ?_); refine with_tabW week_True.tab8 week_True.bits8 (fun HT_ HW_ => ?_)
      generalize w35.drew = w36 at HO_7 BK144 BK145 BK152 HB hHeld ⊢
      refine pure_ (i := 0) (N := some 28) (v := ?_) (a' := ?_) #[true, false, false, false, false, false, false, false, false, false, false, false, false, false, false, false] rfl rfl (any_of HT_.out (by kernel_rfl)) (fun _ _ _ h => h) (Or.inl ⟨by rfl, ?_⟩) ?_ ?_
      rotate_left
      · intro w'
        go_simp
        with_reducible rfl
      rotate_left
      · simp only [Act.put, List.setIfInBounds_toArray, List.set_cons_zero, List.set_cons_succ, i64_w, i32_w]
        rfl
      refine pure_ (i := 2) (N := some 30) (v := ?_) (a' := ?_) #[true, false, true, false, false, false, false, false, false, false, false, false, false, false, false, false] rfl rfl (any_of HT_.out (by kernel_rfl)) (fun _ _ _ h => h) (Or.inl ⟨by rfl, ?_⟩) ?_ ?_
      rotate_left
      · intro w'
        go_simp
        with_reducible rfl
      rotate_left
      · simp only [Act.put, List.setIfInBounds_toArray, List.set_cons_zero, List.set_cons_succ, i64_w, i32_w]
        rfl
      refine pure_ (i := 3) (N := some 31) (v := ?_) (a' := ?_) #[true, false, true, true, false, false, false, false, false, false, false, false, false, false, false, false] rfl rfl (any_of HT_.out (by kernel_rfl)) (fun _ _ _ h => h) (Or.inl ⟨by rfl, ?_⟩) ?_ ?_
      rotate_left
      · intro w'
        go_simp
        with_reducible rfl
      rotate_left
      · simp only [Act.put, List.setIfInBounds_toArray, List.set_cons_zero, List.set_cons_succ, i64_w, i32_w]
        rfl
      refine pure_ (i := 6) (N := some 34) (v := ?_) (a' := ?_) #[true, false, true, true, false, false, true, false, false, false, false, false, false, false, false, false] rfl rfl (any_of HT_.out (by kernel_rfl)) (fun _ _ _ h => h) (Or.inl ⟨by rfl, ?_⟩) ?_ ?_
      rotate_left
      · intro w'
        go_simp
        with_reducible rfl
      rotate_left
      · simp only [Act.put, List.setIfInBounds_toArray, List.set_cons_zero, List.set_cons_succ, i64_w, i32_w]
        rfl
      refine pure_ (i := 8) (N := some 36) (v := ?_) (a' := ?_) #[true, false, true, true, false, false, true, false, true, false, false, false, false, false, false, false] rfl rfl (any_of HT_.out (by kernel_rfl)) (fun _ _ _ h => h) (Or.inl ⟨by rfl, ?_⟩) ?_ ?_
      rotate_left
      · intro w'
        go_simp
        with_reducible rfl
      rotate_left
      · simp only [Act.put, List.setIfInBounds_toArray, List.set_cons_zero, List.set_cons_succ, i64_w, i32_w]
        rfl
      refine pure_ (i := 9) (N := some 37) (v := ?_) (a' := ?_) #[true, false, true, true, false, false, true, false, true, true, false, false, false, false, false, false] rfl rfl (any_of HT_.out (by kernel_rfl)) (fun _ _ _ h => h) (Or.inl ⟨by rfl, ?_⟩) ?_ ?_
      rotate_left
      · intro w'
        go_simp
        with_reducible rfl
      rotate_left
      · simp only [Act.put, List.setIfInBounds_toArray, List.set_cons_zero, List.set_cons_succ, i64_w, i32_w]
        rfl
      refine take_ (i := 1) (N := some 29) (v := ?_) (a' := ?_) #[true, true, true, true, false, false, true, false, true, true, false, false, false, false, false, false] rfl rfl (take_ofW HT_.out HW_.out (by kernel_rfl)) (fun _ _ _ h => h) (Or.inl ⟨by rfl, ?_⟩) hHeld ?_ ?_
      rotate_left
      · rintro w' ⟨s0, s1, s2, s3, s4, s5, s6⟩
        go_simp
        with_reducible rfl
      rotate_left
      · simp only [Act.put, List.setIfInBounds_toArray, List.set_cons_zero, List.set_cons_succ, i64_w, i32_w]
        rfl
      refine take_ (i := 4) (N := some 32) (v := ?_) (a' := ?_) #[true, true, true, true, true, false, true, false, true, true, false, false, false, false, false, false] rfl rfl (take_ofW HT_.out HW_.out (by kernel_rfl)) (fun _ _ _ h => h) (Or.inl ⟨by rfl, ?_⟩) hHeld ?_ ?_
      rotate_left
      · rintro w' ⟨s0, s1, s2, s3, s4, s5, s6⟩
        go_simp
        with_reducible rfl
      rotate_left
      · simp only [Act.put, List.setIfInBounds_toArray, List.set_cons_zero, List.set_cons_succ, i64_w, i32_w]
        rfl
      refine take_ (i := 7) (N := some 35) (v := ?_) (a' := ?_) #[true, true, true, true, true, false, true, true, true, true, false, false, false, false, false, false] rfl rfl (take_ofW HT_.out HW_.out (by kernel_rfl)) (fun _ _ _ h => h) (Or.inl ⟨by rfl, ?_⟩) hHeld ?_ ?_
      rotate_left
      · rintro w' ⟨s0, s1, s2, s3, s4, s5, s6⟩
        go_simp
        with_reducible rfl
      rotate_left
      · simp only [Act.put, List.setIfInBounds_toArray, List.set_cons_zero, List.set_cons_succ, i64_w, i32_w]
        rfl
      refine take_ (i := 10) (N := some 38) (v := ?_) (a' := ?_) #[true, true, true, true, true, false, true, true, true, true, true, false, false, false, false, false] rfl rfl (take_ofW HT_.out HW_.out (by kernel_rfl)) (fun _ _ _ h => h) (Or.inl ⟨by rfl, ?_⟩) hHeld ?_ ?_
      rotate_left
      · rintro w' ⟨s0, s1, s2, s3, s4, s5, s6⟩
        go_simp
        with_reducible rfl
      rotate_left
      · simp only [Act.put, List.setIfInBounds_toArray, List.set_cons_zero, List.set_cons_succ, i64_w, i32_w]
        rfl
      refine one_ (i := 5) (N := some 33) #[true, true, true, true, true, true, true, true, true, true, true, false, false, false, false, false] rfl rfl (one_of HT_.out (by kernel_rfl)) (by decide) (fun K hK => ?_)
      refine goes_ Tryd.func29 (by kernel_rfl) rfl #[.agg #[.slice A0_0 l0_0.length c0_0, .slice A0_1 l0_1.length c0_1, .slice A0_2 l0_2.length c0_2, .slice A0_3 l0_3.length c0_3, .slice A0_4 l0_4.length c0_4], .int .i64 x23_1, .int .i64 ((rd_T55 l1_0 x23_1).f0)] (by rfl) rfl rfl (by (try simp only [List.map_toArray, List.map_cons, List.map_nil]); first | done | rfl | (simp only [List.length_drop, List.length_take]; rfl)) ?_
      with_reducible refine (week_At.calls _ _ l0_0 _ _ l0_1 _ _ l0_2 _ _ l0_3 _ _ l0_4 x23_1 ((rd_T55 l1_0 x23_1).f0) t153 _ ?side1 ?side2 ?side3 ?side4 ?side5 ?side6 ?side7 ?side8 ?side9 ?side10 A23.out).mono ?_
      (case side1 => repeat (first | exact (Kd.C_below HR0_0.out HB.out) | (with_reducible refine Kd.C_alloc ?_ _) | (with_reducible refine Kd.C_drewN ?_ _) | (with_reducible refine Kd.C_drew ?_)))
      (case side2 => exact HC0_0.out)
      (case side3 => repeat (first | exact (Kd.C_below HR0_1.out HB.out) | (with_reducible refine Kd.C_alloc ?_ _) | (with_reducible refine Kd.C_drewN ?_ _) | (with_reducible refine Kd.C_drew ?_)))
      (case side4 => exact HC0_1.out)
      (case side5 => repeat (first | exact (Kd.C_below HR0_2.out HB.out) | (with_reducible refine Kd.C_alloc ?_ _) | (with_reducible refine Kd.C_drewN ?_ _) | (with_reducible refine Kd.C_drew ?_)))
      (case side6 => exact HC0_2.out)
      (case side7 => repeat (first | exact (Kd.C_below HR0_3.out HB.out) | (with_reducible refine Kd.C_alloc ?_ _) | (with_reducible refine Kd.C_drewN ?_ _) | (with_reducible refine Kd.C_drew ?_)))
      (case side8 => exact HC0_3.out)
      (case side9 => repeat (first | exact (Kd.C_below HR0_4.out HB.out) | (with_reducible refine Kd.C_alloc ?_ _) | (with_reducible refine Kd.C_drewN ?_ _) | (with_reducible refine Kd.C_drew ?_)))
      (case side10 => exact HC0_4.out)
      rintro e w37 ⟨rfl, hb⟩
      refine ⟨_, rfl, ?_⟩
      have n0_ := Aside0.mk (Kd.R_below (r_ HO_7) hb)
      have n1_ := Aside0.mk (blk_below (k_ BK144) hb)
      have n2_ := Aside0.mk (blk_below (k_ BK145) hb)
      have n3_ := Aside0.mk (blk_below (k_ BK152) hb)
      have n4_ := Aside0.mk (below_step (b_ HB) hb)
      clear HO_7 BK144 BK145 BK152 HB
      have HO_7 := n0_; have BK144 := n1_; have BK145 := n2_; have BK152 := n3_; have HB := n4_
      clear n0_ n1_ n2_ n3_ n4_
      (try clear hb); (try clear hb2); (try clear hk); (try clear hi)
      refine hK.out _ _ ⟨(blk_cell BK144.out 0).trans rfl, (blk_cell BK144.out 1).trans rfl, (blk_cell BK144.out 2).trans rfl, (blk_cell BK144.out 3).trans rfl, (blk_cell BK144.out 4).trans rfl, (blk_cell BK152.out 0).trans rfl, (blk_cell BK152.out 1).trans rfl⟩ (fun hHeld => ?_)
      clear hK K
      refine norm_ (a' := ?_) ?_ ?_
      rotate_left
      · show Act.put _ (some 33) _ = _
        simp only [Act.put, List.setIfInBounds_toArray, List.set_cons_zero, List.set_cons_succ, i64_w, i32_w]
        rfl
      refine one_ (i := 11) (N := some 39) #[true, true, true, true, true, true, true, true, true, true, true, true, false, false, false, false] rfl rfl (one_of HT_.out (by kernel_rfl)) (by decide) (fun K hK => ?_)
      refine goes_ Tryd.func30 (by kernel_rfl) rfl #[.agg #[.slice A0_0 l0_0.length c0_0, .slice A0_1 l0_1.length c0_1, .slice A0_2 l0_2.length c0_2, .slice A0_3 l0_3.length c0_3, .slice A0_4 l0_4.length c0_4], .int .i64 x23_1, .int .i64 ((rd_T55 l1_0 x23_1).f1)] (by rfl) rfl rfl (by (try simp only [List.map_toArray, List.map_cons, List.map_nil]); first | done | rfl | (simp only [List.length_drop, List.length_take]; rfl)) ?_
      with_reducible refine (week_In.calls _ _ l0_0 _ _ l0_1 _ _ l0_2 _ _ l0_3 _ _ l0_4 x23_1 ((rd_T55 l1_0 x23_1).f1) t154 _ ?side1 ?side2 ?side3 ?side4 ?side5 ?side6 ?side7 ?side8 ?side9 ?side10 A24.out).mono ?_
      (case side1 => repeat (first | exact (Kd.C_below HR0_0.out HB.out) | (with_reducible refine Kd.C_alloc ?_ _) | (with_reducible refine Kd.C_drewN ?_ _) | (with_reducible refine Kd.C_drew ?_)))
      (case side2 => exact HC0_0.out)
      (case side3 => repeat (first | exact (Kd.C_below HR0_1.out HB.out) | (with_reducible refine Kd.C_alloc ?_ _) | (with_reducible refine Kd.C_drewN ?_ _) | (with_reducible refine Kd.C_drew ?_)))
      (case side4 => exact HC0_1.out)
      (case side5 => repeat (first | exact (Kd.C_below HR0_2.out HB.out) | (with_reducible refine Kd.C_alloc ?_ _) | (with_reducible refine Kd.C_drewN ?_ _) | (with_reducible refine Kd.C_drew ?_)))
      (case side6 => exact HC0_2.out)
      (case side7 => repeat (first | exact (Kd.C_below HR0_3.out HB.out) | (with_reducible refine Kd.C_alloc ?_ _) | (with_reducible refine Kd.C_drewN ?_ _) | (with_reducible refine Kd.C_drew ?_)))
      (case side8 => exact HC0_3.out)
      (case side9 => repeat (first | exact (Kd.C_below HR0_4.out HB.out) | (with_reducible refine Kd.C_alloc ?_ _) | (with_reducible refine Kd.C_drewN ?_ _) | (with_reducible refine Kd.C_drew ?_)))
      (case side10 => exact HC0_4.out)
      rintro e w38 ⟨rfl, hb⟩
      refine ⟨_, rfl, ?_⟩
      have n0_ := Aside0.mk (Kd.R_below (r_ HO_7) hb)
      have n1_ := Aside0.mk (blk_below (k_ BK144) hb)
      have n2_ := Aside0.mk (blk_below (k_ BK145) hb)
      have n3_ := Aside0.mk (blk_below (k_ BK152) hb)
      have n4_ := Aside0.mk (below_step (b_ HB) hb)
      clear HO_7 BK144 BK145 BK152 HB
      have HO_7 := n0_; have BK144 := n1_; have BK145 := n2_; have BK152 := n3_; have HB := n4_
      clear n0_ n1_ n2_ n3_ n4_
      (try clear hb); (try clear hb2); (try clear hk); (try clear hi)
      have p27 : 0 ≤ (t153 : Int) := of_decide_eq_true (by first | (with_reducible assumption) | assumption)
      have q27 : (t153 : Int) < ((x7_1.length : Int) : Int) := of_decide_eq_true (by first | (with_reducible assumption) | assumption)
      obtain ⟨go27, co27, eo27, gb27, gl27, cl27, HG27⟩ := Kd.R_form HO_7.out (by omega)
      (first | cases eo27 | (injection eo27 with ea_ en_ ec_; (first | subst ea_ | (injection ea_ with ea_; subst ea_)); subst ec_; clear en_))
      have GB27 := Aside0.mk gb27
      have GG27 := Aside0.mk HG27
      clear gb27 gl27 HG27
      obtain ⟨hx27_0, hf27_0⟩ := Kd.R_celln false HO_7.out (t153 : Int) p27 q27
      replace p27 := eq_true p27
      replace q27 := eq_true q27
      have HP39 := Kd.R_putn HO_7.out (t153 : Int) true
      rw [← Ny155.out] at HP39
      have HQ39 := Aside0.mk HP39
      clear HP39
      have p30 : 0 ≤ (t154 : Int) := of_decide_eq_true (by first | (with_reducible assumption) | assumption)
      have q30 : (t154 : Int) < ((x7_1.length : Int) : Int) := of_decide_eq_true (by first | (with_reducible assumption) | assumption)
      obtain ⟨hx30_0, hf30_0⟩ := Kd.R_celln false HQ39.out (t154 : Int) p30 q30
      replace p30 := eq_true p30
      replace q30 := eq_true q30
      have HP40 := Kd.R_putn HQ39.out (t154 : Int) true
      rw [← Ny156.out] at HP40
      have HQ40 := Aside0.mk HP40
      clear HP40
      refine hK.out _ _ ⟨(blk_cell BK144.out 0).trans rfl, (blk_cell BK144.out 1).trans rfl, (blk_cell BK144.out 2).trans rfl, (blk_cell BK144.out 3).trans rfl, (blk_cell BK144.out 4).trans rfl, (blk_cell BK152.out 0).trans rfl, (blk_cell BK152.out 1).trans rfl⟩ (fun hHeld => ?_)
      clear hK K
      refine norm_ (a' := ?_) ?_ ?_
      rotate_left
      · show Act.put _ (some 39) _ = _
        simp only [Act.put, List.setIfInBounds_toArray, List.set_cons_zero, List.set_cons_succ, i64_w, i32_w]
        rfl
      refine pure_ (i := 12) (N := some 40) (v := ?_) (a' := ?_) #[true, true, true, true, true, true, true, true, true, true, true, true, true, false, false, false] rfl rfl (any_of HT_.out (by kernel_rfl)) (fun _ _ _ h => h) (Or.inl ⟨by rfl, ?_⟩) ?_ ?_
      rotate_left
      · intro w'
        go_simp
        with_reducible rfl
      rotate_left
      · simp only [Act.put, List.setIfInBounds_toArray, List.set_cons_zero, List.set_cons_succ, i64_w, i32_w]
        rfl
      refine last_ (i := 13) (N := none) #[true, true, true, true, true, true, true, true, true, true, true, true, true, true, false, false] rfl rfl (one_of HT_.out (by kernel_rfl)) (by decide) (fun K hK => ?_)
      refine skip_ (w1 := ?_) (by rfl) rfl ?_ ?_
      rotate_left
      · go_simp
        rfl
      refine hK.out _ _ ?_
      clear hK K
      refine pure_ (i := 14) (N := some 41) (v := ?_) (a' := ?_) #[true, true, true, true, true, true, true, true, true, true, true, true, true, true, true, false] rfl rfl (any_of HT_.out (by kernel_rfl)) (fun _ _ _ h => h) (Or.inl ⟨by rfl, ?_⟩) ?_ ?_
      rotate_left
      · intro w'
        go_simp
        with_reducible rfl
      rotate_left
      · simp only [Act.put, List.setIfInBounds_toArray, List.set_cons_zero, List.set_cons_succ, i64_w, i32_w]
        rfl
      refine last_ (i := 15) (N := none) #[true, true, true, true, true, true, true, true, true, true, true, true, true, true, true, true] rfl rfl (one_of HT_.out (by kernel_rfl)) (by decide) (fun K hK => ?_)
      refine skip_ (w1 := ?_) (by rfl) rfl ?_ ?_
      rotate_left
      · go_simp
        rfl
      refine hK.out _ _ ?_
      clear hK K
      refine done_ (done_of HT_.out (by kernel_rfl)) ?_
      try go_wp2
      go_roundg k1
      case measure => have := HK1.out; omega
      case rel => exact ⟨(y156), (wrap64 (x23_1 + 1)), (by first | rfl | (simp; done) | (simp [*]; done)), H', ⟨by have := HK1.out; omega⟩, ⟨by (with_reducible repeat (first | apply Kd.R_alloc | apply Kd.R_drewN | apply Kd.R_drew)); exact HQ40.out⟩, ⟨by (with_reducible repeat (first | refine blk_drewN ?_ _ | refine blk_drew ?_ | refine blk_alloc ?_ _)); refine blk_far ?_ (by have h_ := Kd.R_ne HO_7.out BK144.out (by decide); intro e_; exact h_ (by rw [e_]; rfl)) _; (with_reducible repeat (first | refine blk_drewN ?_ _ | refine blk_drew ?_ | refine blk_alloc ?_ _)); refine blk_far ?_ (by have h_ := Kd.R_ne HO_7.out BK144.out (by decide); intro e_; exact h_ (by rw [e_]; rfl)) _; (with_reducible repeat (first | refine blk_drewN ?_ _ | refine blk_drew ?_ | refine blk_alloc ?_ _)); exact BK144.out⟩, ⟨by (with_reducible repeat (first | refine blk_drewN ?_ _ | refine blk_drew ?_ | refine blk_alloc ?_ _)); refine blk_far ?_ (by have h_ := Kd.R_ne HO_7.out BK145.out (by decide); intro e_; exact h_ (by rw [e_]; rfl)) _; (with_reducible repeat (first | refine blk_drewN ?_ _ | refine blk_drew ?_ | refine blk_alloc ?_ _)); refine blk_far ?_ (by have h_ := Kd.R_ne HO_7.out BK145.out (by decide); intro e_; exact h_ (by rw [e_]; rfl)) _; (with_reducible repeat (first | refine blk_drewN ?_ _ | refine blk_drew ?_ | refine blk_alloc ?_ _)); exact BK145.out⟩, ⟨by repeat (first | (with_reducible first | exact HB.out | apply below_alloc | apply pw_below_drewN | apply below_drew1 | refine below_set ?_ GB27.out | refine below_set ?_ GB27.out | refine below_set ?_ GE144.out | refine below_set ?_ GE145.out | refine below_set ?_ GE152.out) | exact HB.out)⟩⟩
end Go.Proofs.YtjdajlnigiicaaaDoor.S
end
section
namespace Go.Proofs.YtjdajlnigiicaaaDoor.S
open Go.RowKit Go.Proofs.YtjdajlnigiicaaaDoorW.PrintWords Go.Proofs.YtjdajlnigiicaaaDoorW.PrintLast Go.Proofs.YtjdajlnigiicaaaDoorW.PrintMore
attribute [local go_sem] max2_int min2_int max_two min_two max_three min_three max_four min_four   -- for this text's walks alone
set_option linter.unusedVariables false
set_option linter.unusedSimpArgs false
def chalklinelaw04_two.f  : Option ((List (S87)) × (List (S91)) × (List (S95)) × (List (S98)) × (List (S101))) := some ((([(⟨(⟨#[115, 48]⟩ : ByteArray), 0, 0⟩ : S87), (⟨(⟨#[115, 49]⟩ : ByteArray), 0, 1⟩ : S87)] : List (S87))), (([(⟨(⟨#[114, 48]⟩ : ByteArray), 0, 9, ([] : List Int)⟩ : S91), (⟨(⟨#[114, 49]⟩ : ByteArray), 0, 9, ([] : List Int)⟩ : S91)] : List (S91))), ([] : List (S95)), ([] : List (S98)), (([(⟨(⟨#[108, 48]⟩ : ByteArray), ([] : List Int), ([] : List Int)⟩ : S101), (⟨(⟨#[108, 49]⟩ : ByteArray), ([] : List Int), ([] : List Int)⟩ : S101)] : List (S101))))
set_option maxHeartbeats 8000000 in
set_option maxRecDepth 100000 in
theorem chalklinelaw04_two.calls  (r1 : List (S87)) (r2 : List (S91)) (r3 : List (S95)) (r4 : List (S98)) (r5 : List (S101)) (w : World) (h : chalklinelaw04_two.f  = some (r1, r2, r3, r4, r5)) :
    Calls Tryd.prog 31 #[] w fun e w' => ∃ v0_ v1_ v2_ v3_ v4_ : Value, e = .returned (.agg #[v0_, v1_, v2_, v3_, v4_]) ∧ Kd.R k87 87 w' w.heap.size (fun _ => True) v0_ r1 ∧ Kd.S k91 91 w' w.heap.size (fun _ => True) v1_ r2 ∧ Kd.S k95 95 w' w.heap.size (fun _ => True) v2_ r3 ∧ Kd.R k98 98 w' w.heap.size (fun _ => True) v3_ r4 ∧ Kd.S k101 101 w' w.heap.size (fun _ => True) v4_ r5 ∧ Below w.heap.size w w' := by
  have hu45 := Tryd.underlying45
  have hu87 := Tryd.underlying87
  have hu91 := Tryd.underlying91
  have hu101 := Tryd.underlying101
  have HB := Aside0.mk (Below.refl w.heap.size w)
  have H : (some ((([(⟨(⟨#[115, 48]⟩ : ByteArray), 0, 0⟩ : S87), (⟨(⟨#[115, 49]⟩ : ByteArray), 0, 1⟩ : S87)] : List (S87))), (([(⟨(⟨#[114, 48]⟩ : ByteArray), 0, 9, ([] : List Int)⟩ : S91), (⟨(⟨#[114, 49]⟩ : ByteArray), 0, 9, ([] : List Int)⟩ : S91)] : List (S91))), ([] : List (S95)), ([] : List (S98)), (([(⟨(⟨#[108, 48]⟩ : ByteArray), ([] : List Int), ([] : List Int)⟩ : S101), (⟨(⟨#[108, 49]⟩ : ByteArray), ([] : List Int), ([] : List Int)⟩ : S101)] : List (S101))))) = some (r1, r2, r3, r4, r5) := h
  clear h
  obtain ⟨y158, hy158⟩ : ∃ y_ : List (S87), y_ = (([(⟨(⟨#[115, 48]⟩ : ByteArray), 0, 0⟩ : S87), (⟨(⟨#[115, 49]⟩ : ByteArray), 0, 1⟩ : S87)] : List (S87))) := ⟨_, rfl⟩
  replace H : (some (y158, (([(⟨(⟨#[114, 48]⟩ : ByteArray), 0, 9, ([] : List Int)⟩ : S91), (⟨(⟨#[114, 49]⟩ : ByteArray), 0, 9, ([] : List Int)⟩ : S91)] : List (S91))), ([] : List (S95)), ([] : List (S98)), (([(⟨(⟨#[108, 48]⟩ : ByteArray), ([] : List Int), ([] : List Int)⟩ : S101), (⟨(⟨#[108, 49]⟩ : ByteArray), ([] : List Int), ([] : List Int)⟩ : S101)] : List (S101))))) = some (r1, r2, r3, r4, r5) := by first | (rw [hy158]; with_reducible exact H) | (have H2_ := (Option.bind_some _ _).symm.trans H; rw [hy158]; with_reducible exact H2_) | (have H2_ := (Option.bind_some _ _).symm.trans H; with_reducible exact H2_) | with_reducible exact H | (rw [hy158]; exact H) | exact H
  have Ny158 := Aside0.mk hy158
  clear hy158
  obtain ⟨y161, hy161⟩ : ∃ y_ : List (S91), y_ = (([(⟨(⟨#[114, 48]⟩ : ByteArray), 0, 9, ([] : List Int)⟩ : S91), (⟨(⟨#[114, 49]⟩ : ByteArray), 0, 9, ([] : List Int)⟩ : S91)] : List (S91))) := ⟨_, rfl⟩
  replace H : (some (y158, y161, ([] : List (S95)), ([] : List (S98)), (([(⟨(⟨#[108, 48]⟩ : ByteArray), ([] : List Int), ([] : List Int)⟩ : S101), (⟨(⟨#[108, 49]⟩ : ByteArray), ([] : List Int), ([] : List Int)⟩ : S101)] : List (S101))))) = some (r1, r2, r3, r4, r5) := by first | (rw [hy161]; with_reducible exact H) | (have H2_ := (Option.bind_some _ _).symm.trans H; rw [hy161]; with_reducible exact H2_) | (have H2_ := (Option.bind_some _ _).symm.trans H; with_reducible exact H2_) | with_reducible exact H | (rw [hy161]; exact H) | exact H
  have Ny161 := Aside0.mk hy161
  clear hy161
  obtain ⟨y164, hy164⟩ : ∃ y_ : List (S101), y_ = (([(⟨(⟨#[108, 48]⟩ : ByteArray), ([] : List Int), ([] : List Int)⟩ : S101), (⟨(⟨#[108, 49]⟩ : ByteArray), ([] : List Int), ([] : List Int)⟩ : S101)] : List (S101))) := ⟨_, rfl⟩
  replace H : (some (y158, y161, ([] : List (S95)), ([] : List (S98)), y164)) = some (r1, r2, r3, r4, r5) := by first | (rw [hy164]; with_reducible exact H) | (have H2_ := (Option.bind_some _ _).symm.trans H; rw [hy164]; with_reducible exact H2_) | (have H2_ := (Option.bind_some _ _).symm.trans H; with_reducible exact H2_) | with_reducible exact H | (rw [hy164]; exact H) | exact H
  have Ny164 := Aside0.mk hy164
  clear hy164
  simp only [Option.some.injEq, Prod.mk.injEq] at H
  obtain ⟨rfl, rfl, rfl, rfl, rfl⟩ := H
  go_enter Tryd.func31, Tryd.ntmps31
  go_wp2_with (first | ((with_reducible refine gate_dst (N := 0) rfl ?_); refine box_event ?hg (N := 0) ?hd (cs := #[.slice none 0 0, .slice none 0 0, .slice none 0 0, .slice none 0 0, .slice none 0 0]) (t := 45) ?hr ?_; (case hd => rfl); (case hg => rfl); (case hr => first | (go_simp; done) | (go_simp; rfl)); intro gb157 hg w1 hbox hb; have n0_ := Aside0.mk (below_step (b_ HB) hb); have n1_ := Aside0.mk (hbox); have n2_ := Aside0.mk ((by rw [hg]; exact (below_size (b_ HB)) : w.heap.size ≤ gb157)); have n3_ := n2_; clear HB; have HB := n0_; have BK157 := n1_; have GW157 := n2_; have GE157 := n3_; clear n0_ n1_ n2_ n3_; clear hb hbox hg) | ((with_reducible refine gate_dst (N := 3) rfl ?_); refine Kd.R_lit k87 _ 87 ?hg (N := 3) ?hd (xs := ([(⟨(⟨#[115, 48]⟩ : ByteArray), 0, 0⟩ : S87), (⟨(⟨#[115, 49]⟩ : ByteArray), 0, 1⟩ : S87)] : List (S87))) (inner := [.string (⟨#[115, 48]⟩ : ByteArray), .int .i64 0, .int .i64 0, .string (⟨#[115, 49]⟩ : ByteArray), .int .i64 0, .int .i64 1]) (ok := fun _ => True) (okp := fun _ => True) ?hr ?hp (fun _ hk => hk) trivial (Below.refl _ _) (Nat.le_refl _) (by simp) ?_; (case hd => rfl); (case hg => rfl); (case hr => first | (go_simp; done) | (go_simp; rfl)); (case hp => exact (Reps.c3 (show Kd.M k87 _ _ _ (⟨(⟨#[115, 48]⟩ : ByteArray), 0, 0⟩ : S87) [.string (⟨#[115, 48]⟩ : ByteArray), .int .i64 0, .int .i64 0] from (k87_mkM _ _ _ (⟨(⟨#[115, 48]⟩ : ByteArray), 0, 0⟩ : S87) )) (Reps.c3 (show Kd.M k87 _ _ _ (⟨(⟨#[115, 49]⟩ : ByteArray), 0, 1⟩ : S87) [.string (⟨#[115, 49]⟩ : ByteArray), .int .i64 0, .int .i64 1] from (k87_mkM _ _ _ (⟨(⟨#[115, 49]⟩ : ByteArray), 0, 1⟩ : S87) )) (Reps.none _ _)))); intro v159 w2 ho3 hb hg_ hnew_; clear hg_ hnew_; (first | rw [← Ny158.out] at ho3 | (simp only [Int.reduceToNat] at ho3; rw [← Ny158.out] at ho3)); have n0_ := Aside0.mk (Kd.R_lower ho3 (below_size (b_ HB))); have n1_ := Aside0.mk (blk_below (k_ BK157) hb); have n2_ := Aside0.mk (below_step (b_ HB) hb); clear BK157; clear HB; have HO160 := n0_; have BK157 := n1_; have HB := n2_; clear n0_ n1_ n2_; clear hb ho3) | ((with_reducible refine gate_dst (N := 6) rfl ?_); refine Kd.S_lit k91 _ 91 ?hg (N := 6) ?hd (xs := ([(⟨(⟨#[114, 48]⟩ : ByteArray), 0, 9, ([] : List Int)⟩ : S91), (⟨(⟨#[114, 49]⟩ : ByteArray), 0, 9, ([] : List Int)⟩ : S91)] : List (S91))) (inner := [.string (⟨#[114, 48]⟩ : ByteArray), .int .i64 0, .int .i64 9, .slice none 0 0, .string (⟨#[114, 49]⟩ : ByteArray), .int .i64 0, .int .i64 9, .slice none 0 0]) (ok := fun _ => True) (okp := fun _ => True) ?hr ?hp (fun _ hk => hk) trivial (Below.refl _ _) (Nat.le_refl _) (by simp) ?_; (case hd => rfl); (case hg => rfl); (case hr => first | (go_simp; done) | (go_simp; rfl)); (case hp => exact (Reps.c4 (show Kd.M k91 _ _ _ (⟨(⟨#[114, 48]⟩ : ByteArray), 0, 9, ([] : List Int)⟩ : S91) [.string (⟨#[114, 48]⟩ : ByteArray), .int .i64 0, .int .i64 9, .slice none 0 0] from (k91_mkM _ _ _ (⟨(⟨#[114, 48]⟩ : ByteArray), 0, 9, ([] : List Int)⟩ : S91) (Kd.R_nil _ _ _ _ _))) (Reps.c4 (show Kd.M k91 _ _ _ (⟨(⟨#[114, 49]⟩ : ByteArray), 0, 9, ([] : List Int)⟩ : S91) [.string (⟨#[114, 49]⟩ : ByteArray), .int .i64 0, .int .i64 9, .slice none 0 0] from (k91_mkM _ _ _ (⟨(⟨#[114, 49]⟩ : ByteArray), 0, 9, ([] : List Int)⟩ : S91) (Kd.R_nil _ _ _ _ _))) (Reps.none _ _)))); intro v162 w4 ho5 hb hg_ hnew_; clear hg_ hnew_; (first | rw [← Ny161.out] at ho5 | (simp only [Int.reduceToNat] at ho5; rw [← Ny161.out] at ho5)); have n0_ := Aside0.mk (Kd.R_below (r_ HO160) hb); have n1_ := Aside0.mk (Kd.S_lower ho5 (below_size (b_ HB))); have n2_ := Aside0.mk (blk_below (k_ BK157) hb); have n3_ := Aside0.mk (below_step (b_ HB) hb); clear HO160; clear BK157; clear HB; have HO160 := n0_; have HO163 := n1_; have BK157 := n2_; have HB := n3_; clear n0_ n1_ n2_ n3_; clear hb ho5) | ((with_reducible refine gate_dst (N := 9) rfl ?_); refine Kd.S_lit k101 _ 101 ?hg (N := 9) ?hd (xs := ([(⟨(⟨#[108, 48]⟩ : ByteArray), ([] : List Int), ([] : List Int)⟩ : S101), (⟨(⟨#[108, 49]⟩ : ByteArray), ([] : List Int), ([] : List Int)⟩ : S101)] : List (S101))) (inner := [.string (⟨#[108, 48]⟩ : ByteArray), .slice none 0 0, .slice none 0 0, .string (⟨#[108, 49]⟩ : ByteArray), .slice none 0 0, .slice none 0 0]) (ok := fun _ => True) (okp := fun _ => True) ?hr ?hp (fun _ hk => hk) trivial (Below.refl _ _) (Nat.le_refl _) (by simp) ?_; (case hd => rfl); (case hg => rfl); (case hr => first | (go_simp; done) | (go_simp; rfl)); (case hp => exact (Reps.c3 (show Kd.M k101 _ _ _ (⟨(⟨#[108, 48]⟩ : ByteArray), ([] : List Int), ([] : List Int)⟩ : S101) [.string (⟨#[108, 48]⟩ : ByteArray), .slice none 0 0, .slice none 0 0] from (k101_mkM _ _ _ (⟨(⟨#[108, 48]⟩ : ByteArray), ([] : List Int), ([] : List Int)⟩ : S101) (Kd.R_nil _ _ _ _ _) (Kd.R_nil _ _ _ _ _))) (Reps.c3 (show Kd.M k101 _ _ _ (⟨(⟨#[108, 49]⟩ : ByteArray), ([] : List Int), ([] : List Int)⟩ : S101) [.string (⟨#[108, 49]⟩ : ByteArray), .slice none 0 0, .slice none 0 0] from (k101_mkM _ _ _ (⟨(⟨#[108, 49]⟩ : ByteArray), ([] : List Int), ([] : List Int)⟩ : S101) (Kd.R_nil _ _ _ _ _) (Kd.R_nil _ _ _ _ _))) (Reps.none _ _)))); intro v165 w6 ho7 hb hg_ hnew_; clear hg_ hnew_; (first | rw [← Ny164.out] at ho7 | (simp only [Int.reduceToNat] at ho7; rw [← Ny164.out] at ho7)); have n0_ := Aside0.mk (Kd.R_below (r_ HO160) hb); have n1_ := Aside0.mk (Kd.S_below (s_ HO163) hb); have n2_ := Aside0.mk (Kd.S_lower ho7 (below_size (b_ HB))); have n3_ := Aside0.mk (blk_below (k_ BK157) hb); have n4_ := Aside0.mk (below_step (b_ HB) hb); clear HO160; clear HO163; clear BK157; clear HB; have HO160 := n0_; have HO163 := n1_; have HO166 := n2_; have BK157 := n3_; have HB := n4_; clear n0_ n1_ n2_ n3_ n4_; clear hb ho7; obtain ⟨Ao8, co8, eo8⟩ := Kd.S_slice HO166.out; subst eo8; obtain ⟨Ao9, co9, eo9⟩ := Kd.S_slice HO163.out; subst eo9; obtain ⟨Ao10, co10, eo10⟩ := Kd.R_slice HO160.out; subst eo10; have hcz11_0 : w6.cell? ⟨gb157, 0, none⟩ = some (.slice none 0 0) := (blk_cell BK157.out 0).trans rfl; have hcz11_1 : w6.cell? ⟨gb157, 1, none⟩ = some (.slice none 0 0) := (blk_cell BK157.out 1).trans rfl; have hcz11_2 : w6.cell? ⟨gb157, 2, none⟩ = some (.slice none 0 0) := (blk_cell BK157.out 2).trans rfl; have hcz11_3 : w6.cell? ⟨gb157, 3, none⟩ = some (.slice none 0 0) := (blk_cell BK157.out 3).trans rfl; have hcz11_4 : w6.cell? ⟨gb157, 4, none⟩ = some (.slice none 0 0) := (blk_cell BK157.out 4).trans rfl; have hfz11_0 := blk_frozen BK157.out 0; have hfz11_1 := blk_frozen BK157.out 1; have hfz11_2 := blk_frozen BK157.out 2; have hfz11_3 := blk_frozen BK157.out 3; have hfz11_4 := blk_frozen BK157.out 4))
  refine bodyPost_ret (results_cell_row rfl _ _ gb157 45 #[.slice Ao10 y158.length co10, .slice Ao9 y161.length co9, .slice none 0 0, .slice none 0 0, .slice Ao8 y164.length co8] (0, 0) _ rfl (by (with_reducible repeat (first | refine blk_drewN ?_ _ | refine blk_drew ?_ | refine blk_alloc ?_ _)); refine blk_put (cs := #[.slice Ao10 y158.length co10, .slice Ao9 y161.length co9, .slice none 0 0, .slice none 0 0, .slice none 0 0]) ?_ 4 _ rfl; (with_reducible repeat (first | refine blk_drewN ?_ _ | refine blk_drew ?_ | refine blk_alloc ?_ _)); refine blk_put (cs := #[.slice Ao10 y158.length co10, .slice Ao9 y161.length co9, .slice none 0 0, .slice none 0 0, .slice none 0 0]) ?_ 3 _ rfl; (with_reducible repeat (first | refine blk_drewN ?_ _ | refine blk_drew ?_ | refine blk_alloc ?_ _)); refine blk_put (cs := #[.slice Ao10 y158.length co10, .slice Ao9 y161.length co9, .slice none 0 0, .slice none 0 0, .slice none 0 0]) ?_ 2 _ rfl; (with_reducible repeat (first | refine blk_drewN ?_ _ | refine blk_drew ?_ | refine blk_alloc ?_ _)); refine blk_put (cs := #[.slice Ao10 y158.length co10, .slice none 0 0, .slice none 0 0, .slice none 0 0, .slice none 0 0]) ?_ 1 _ rfl; (with_reducible repeat (first | refine blk_drewN ?_ _ | refine blk_drew ?_ | refine blk_alloc ?_ _)); refine blk_put (cs := #[.slice none 0 0, .slice none 0 0, .slice none 0 0, .slice none 0 0, .slice none 0 0]) ?_ 0 _ rfl; (with_reducible repeat (first | refine blk_drewN ?_ _ | refine blk_drew ?_ | refine blk_alloc ?_ _)); exact BK157.out) Tryd.underlying45 rfl (by kernel_rfl)) rfl ?_
  exact ⟨_, _, _, _, _, by first | rfl | (simp [errW_none, errW_some] <;> rfl) | (simp [*, errW_none, errW_some] <;> rfl), by (with_reducible repeat (first | apply Kd.R_alloc | apply Kd.R_drewN | apply Kd.R_drew)); exact Kd.R_mono (Kd.R_far (p := ⟨gb157, 4, none⟩) (Kd.R_far (p := ⟨gb157, 3, none⟩) (Kd.R_far (p := ⟨gb157, 2, none⟩) (Kd.R_far (p := ⟨gb157, 1, none⟩) (Kd.R_far (p := ⟨gb157, 0, none⟩) (Kd.R_types HO160.out BK157.out (by decide)) (fun _ hk => hk.2) (.slice Ao10 y158.length co10)) (fun _ hk => hk.2) (.slice Ao9 y161.length co9)) (fun _ hk => hk.2) (.slice none 0 0)) (fun _ hk => hk.2) (.slice none 0 0)) (fun _ hk => hk.2) (.slice Ao8 y164.length co8)) (fun _ hk => trivial), by (with_reducible repeat (first | apply Kd.S_alloc | apply Kd.S_drewN | apply Kd.S_drew)); exact Kd.S_mono (Kd.S_far (p := ⟨gb157, 4, none⟩) (Kd.S_far (p := ⟨gb157, 3, none⟩) (Kd.S_far (p := ⟨gb157, 2, none⟩) (Kd.S_far (p := ⟨gb157, 1, none⟩) (Kd.S_far (p := ⟨gb157, 0, none⟩) (Kd.S_types HO163.out BK157.out (by decide)) (fun _ hk => hk.2) (.slice Ao10 y158.length co10)) (fun _ hk => hk.2) (.slice Ao9 y161.length co9)) (fun _ hk => hk.2) (.slice none 0 0)) (fun _ hk => hk.2) (.slice none 0 0)) (fun _ hk => hk.2) (.slice Ao8 y164.length co8)) (fun _ hk => trivial), by first | exact Kd.S_nil _ _ _ _ _ | exact Kd.N_nil _ _ _ _ _ | exact Kd.V_nil _ _ _ _ _ | exact Kd.Q_nil _ _ _ _ _ | exact Kd.R_nil _ _ _ _ _, by first | exact Kd.R_nil _ _ _ _ _ | exact Kd.N_nil _ _ _ _ _ | exact Kd.V_nil _ _ _ _ _ | exact Kd.Q_nil _ _ _ _ _ | exact Kd.S_nil _ _ _ _ _, by (with_reducible repeat (first | apply Kd.S_alloc | apply Kd.S_drewN | apply Kd.S_drew)); exact Kd.S_mono (Kd.S_far (p := ⟨gb157, 4, none⟩) (Kd.S_far (p := ⟨gb157, 3, none⟩) (Kd.S_far (p := ⟨gb157, 2, none⟩) (Kd.S_far (p := ⟨gb157, 1, none⟩) (Kd.S_far (p := ⟨gb157, 0, none⟩) (Kd.S_types HO166.out BK157.out (by decide)) (fun _ hk => hk.2) (.slice Ao10 y158.length co10)) (fun _ hk => hk.2) (.slice Ao9 y161.length co9)) (fun _ hk => hk.2) (.slice none 0 0)) (fun _ hk => hk.2) (.slice none 0 0)) (fun _ hk => hk.2) (.slice Ao8 y164.length co8)) (fun _ hk => trivial), b_ HB⟩
end Go.Proofs.YtjdajlnigiicaaaDoor.S
end
section
namespace Go.Proofs.YtjdajlnigiicaaaDoor.S
open Go.RowKit Go.Proofs.YtjdajlnigiicaaaDoorW.PrintWords Go.Proofs.YtjdajlnigiicaaaDoorW.PrintLast Go.Proofs.YtjdajlnigiicaaaDoorW.PrintMore
set_option linter.unusedVariables false
set_option linter.unusedSimpArgs false
def onlyP (p : Int → Bool) : Nat → Int × Int
  | 0 => (0, 0)
  | k + 1 => if p k then (k, (onlyP p k).2 + 1) else onlyP p k
theorem onlyP_le (p : Int → Bool) : ∀ k : Nat, 0 ≤ (onlyP p k).2 ∧ (onlyP p k).2 ≤ k ∧ 0 ≤ (onlyP p k).1 ∧ (onlyP p k).1 ≤ k
  | 0 => by simp [onlyP]
  | k + 1 => by
    have := onlyP_le p k
    unfold onlyP
    split <;> simp <;> omega
set_option maxHeartbeats 4000000 in
set_option maxRecDepth 100000 in
theorem week_only.calls (g1 g2 : Nat) (caps1 caps2 : Array Value) (hf : Int → Int) (p : Int → Bool) (many : Int) (hm0 : 0 ≤ many) (hm1 : many ≤ 4611686018427387904)
    (eg1 : ∀ args w, (callFunc g1 args).run Tryd.prog w = .ok (.enter g1 args) w) (eg2 : ∀ args w, (callFunc g2 args).run Tryd.prog w = .ok (.enter g2 args) w) (w : World)
    (h1 : ∀ W n, Below w.heap.size w W → 0 ≤ n → n < many → Calls Tryd.prog g1 (#[.int .i64 n] ++ caps1) W fun e W' => e = .returned (.int .i64 (hf n)) ∧ Below W.heap.size W W')
    (h2 : ∀ W n, Below w.heap.size w W → 0 ≤ n → n < many → Calls Tryd.prog g2 (#[.int .i64 (hf n)] ++ caps2) W fun e W' => e = .returned (.bool (p n)) ∧ Below W.heap.size W W') :
    Calls Tryd.prog 39 #[.int .i64 many, .func (.func g1) #[] caps1, .func (.func g2) #[] caps2] w fun e w' => e = .returned (.tuple #[.int .i64 (onlyP p many.toNat).1, .bool ((onlyP p many.toNat).2 == 1)]) ∧ Below w.heap.size w w' := by
  have EG1 := Aside0.mk eg1
  have EG2 := Aside0.mk eg2
  have H1 := Aside0.mk h1
  have H2 := Aside0.mk h2
  have HM := Aside0.mk (And.intro hm0 hm1)
  clear eg1 eg2 h1 h2 hm0 hm1
  go_enter Tryd.func39, Tryd.ntmps39
  go_wp2
  go_loopg [6, 8, 11] many.toNat (fun kq v6 v8 v11 w' => ∃ i k : Nat, ∃ a m : Int, v6 = .int .i64 a ∧ v8 = .int .i64 m ∧ v11 = .int .i64 i ∧ Aside0 (i = k ∧ (k : Int) + kq = many ∧ onlyP p k = (a, m)) ∧ Aside0 (Below w.heap.size w w'))
  case atStart => exact ⟨0, 0, 0, 0, rfl, rfl, rfl, ⟨rfl, by have := HM.out; omega, rfl⟩, ⟨Below.refl _ _⟩⟩
  case round =>
    obtain ⟨i, k, a, m, rfl, rfl, rfl, HI, HB⟩ := hrel
    obtain rfl := HI.out.1
    cases gk with
    | zero =>
      have d1 : decide ((i : Int) < many) = false := decide_eq_false (by have := HI.out.2.1; omega)
      have HE := Aside0.mk (show onlyP p many.toNat = (a, m) by rw [← HI.out.2.2]; congr 1; have := HI.out.2.1; omega)
      go_wp2
      go_ret2
      exact ⟨by rw [HE.out]; rfl, HB.out⟩
    | succ k1 =>
      have d1 : decide ((i : Int) < many) = true := decide_eq_true (by have := HI.out.2.1; omega)
      have EW := Aside0.mk (show wrap64 ((i : Int) + 1) = ((i + 1 : Nat) : Int) by have := HI.out; have := HM.out; unfold wrap64; omega)
      have EM := Aside0.mk (show wrap64 (m + 1) = m + 1 by
        have h := onlyP_le p i
        rw [HI.out.2.2] at h
        have := HI.out; have := HM.out
        simp only at h
        unfold wrap64; omega)
      have HC1 := Aside0.mk (H1.out wr i HB.out (by omega) (by have := HI.out.2.1; omega))
      have HC2 := Aside0.mk (fun W hW => H2.out W i hW (by omega) (by have := HI.out.2.1; omega))
      cases hp : p i with
      | true =>
        rw [hp] at HC2
        have HS := Aside0.mk (show onlyP p (i + 1) = ((i : Int), m + 1) by simp only [onlyP, hp, HI.out.2.2, if_true])
        clear hp
        go_wp2_with (first | ((with_reducible refine gate_dst (N := 17) rfl ?_); refine goesG_ (some 17) rfl rfl EG1.out #[.int .i64 i] caps1 _ rfl (t := 15) rfl (by first | rfl | (go_simp; done) | (go_simp; rfl)) (by (try simp only [List.map_toArray, List.map_cons, List.map_nil]); first | done | rfl) ?_; refine HC1.out.mono ?_; rintro e w2 ⟨rfl, hb⟩; refine ⟨_, rfl, ?_⟩; replace HB := Aside0.mk (below_step HB.out hb); clear hb) | ((with_reducible refine gate_dst (N := 18) rfl ?_); refine goesG_ (some 18) rfl rfl EG2.out #[.int .i64 (hf i)] caps2 _ rfl (t := 14) rfl (by first | rfl | (go_simp; done) | (go_simp; rfl)) (by (try simp only [List.map_toArray, List.map_cons, List.map_nil]); first | done | rfl) ?_; refine (HC2.out _ HB.out).mono ?_; rintro e w2 ⟨rfl, hb⟩; refine ⟨_, rfl, ?_⟩; replace HB := Aside0.mk (below_step HB.out hb); clear hb))
        go_roundg k1
        case measure => omega
        case rel => exact ⟨i + 1, i + 1, i, m + 1, rfl, by rw [EM.out], by rw [EW.out], ⟨rfl, by have := HI.out; omega, HS.out⟩, HB⟩
      | false =>
        rw [hp] at HC2
        have HS := Aside0.mk (show onlyP p (i + 1) = (a, m) by simp [onlyP, hp, HI.out.2.2])
        clear hp
        go_wp2_with (first | ((with_reducible refine gate_dst (N := 17) rfl ?_); refine goesG_ (some 17) rfl rfl EG1.out #[.int .i64 i] caps1 _ rfl (t := 15) rfl (by first | rfl | (go_simp; done) | (go_simp; rfl)) (by (try simp only [List.map_toArray, List.map_cons, List.map_nil]); first | done | rfl) ?_; refine HC1.out.mono ?_; rintro e w2 ⟨rfl, hb⟩; refine ⟨_, rfl, ?_⟩; replace HB := Aside0.mk (below_step HB.out hb); clear hb) | ((with_reducible refine gate_dst (N := 18) rfl ?_); refine goesG_ (some 18) rfl rfl EG2.out #[.int .i64 (hf i)] caps2 _ rfl (t := 14) rfl (by first | rfl | (go_simp; done) | (go_simp; rfl)) (by (try simp only [List.map_toArray, List.map_cons, List.map_nil]); first | done | rfl) ?_; refine (HC2.out _ HB.out).mono ?_; rintro e w2 ⟨rfl, hb⟩; refine ⟨_, rfl, ?_⟩; replace HB := Aside0.mk (below_step HB.out hb); clear hb))
        go_roundg k1
        case measure => omega
        case rel => exact ⟨i + 1, i + 1, a, m, rfl, rfl, by rw [EW.out], ⟨rfl, by have := HI.out; omega, HS.out⟩, HB⟩
theorem week_only.nat (g1 g2 : Nat) (caps1 caps2 : Array Value) (hf : Int → Int) (p : Int → Bool) (k : Nat) (hm1 : k ≤ 1000000) (s m : Int) (hs : onlyP p k = (s, m)) (b : Bool) (hb : (m == 1) = b)
    (eg1 : ∀ args w, (callFunc g1 args).run Tryd.prog w = .ok (.enter g1 args) w) (eg2 : ∀ args w, (callFunc g2 args).run Tryd.prog w = .ok (.enter g2 args) w) (w : World)
    (h1 : ∀ (W : World) (n : Int), Below w.heap.size w W → 0 ≤ n → n < k → Calls Tryd.prog g1 (#[.int .i64 n] ++ caps1) W fun e W' => e = .returned (.int .i64 (hf n)) ∧ Below W.heap.size W W')
    (h2 : ∀ (W : World) (n : Int), Below w.heap.size w W → 0 ≤ n → n < k → Calls Tryd.prog g2 (#[.int .i64 (hf n)] ++ caps2) W fun e W' => e = .returned (.bool (p n)) ∧ Below W.heap.size W W') :
    Calls Tryd.prog 39 #[.int .i64 k, .func (.func g1) #[] caps1, .func (.func g2) #[] caps2] w fun e w' => e = .returned (.tuple #[.int .i64 s, .bool b]) ∧ Below w.heap.size w w' := by
  have h := week_only.calls g1 g2 caps1 caps2 hf p k (by omega) (by omega) eg1 eg2 w h1 h2
  rw [Int.toNat_natCast, hs, hb] at h
  exact h
end Go.Proofs.YtjdajlnigiicaaaDoor.S
end
