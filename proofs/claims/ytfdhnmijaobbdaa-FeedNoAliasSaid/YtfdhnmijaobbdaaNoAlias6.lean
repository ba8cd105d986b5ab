/- feedNoAlias_holds: part 6 of the proof: the plain functions, the walks of the program's functions and the laws about them. Conditions: those that each theorem states. -/
import Derived.WalkKit
import Derived.ProofKit
import Derived.OpenShut
import Derived.ShutString
import Derived.ChangeOld
import Derived.Below
import Derived.SizedLaws
import Derived.Test.YtfdhnmijaobbdaaNoAlias1
import Derived.Test.YtfdhnmijaobbdaaNoAlias2
import Derived.Test.YtfdhnmijaobbdaaNoAlias3
import Derived.Test.YtfdhnmijaobbdaaNoAlias4
import Derived.Test.YtfdhnmijaobbdaaNoAlias5
section
namespace Go.Proofs.Ytfdhnmijaobbdaa.S
open Go.RowKit Go.Proofs.YtfdhnmijaobbdaaW.PrintWords Go.Proofs.YtfdhnmijaobbdaaW.PrintLast Go.Proofs.YtfdhnmijaobbdaaW.PrintMore
theorem wrap_succ {i : Nat} (h : i < 9223372036854775807) : wrap64 ((i : Int) + 1) = ((i + 1 : Nat) : Int) := by
  unfold wrap64; omega
theorem wrap_pred {i : Int} (h0 : -9223372036854775807 ≤ i) (h : i ≤ 9223372036854775807) : wrap64 (i - 1) = i - 1 := by
  unfold wrap64; omega
theorem wrap_inc {i : Int} (h0 : -9223372036854775808 ≤ i) (h : i < 9223372036854775807) : wrap64 (i + 1) = i + 1 := by
  unfold wrap64; omega
theorem drop_cons {α : Type} {l s : List α} {x : α} {i : Nat} (h : l.drop i = x :: s) : i < l.length ∧ l[i]? = some x ∧ l.drop (i + 1) = s := by
  have h1 : i < l.length := by
    rcases Nat.lt_or_ge i l.length with h1 | h1
    · exact h1
    · rw [List.drop_eq_nil_of_le h1] at h; cases h
  refine ⟨h1, ?_, ?_⟩
  · rw [List.drop_eq_getElem_cons h1] at h
    injection h with h _
    rw [List.getElem?_eq_getElem h1, h]
  · rw [List.drop_eq_getElem_cons h1] at h
    injection h
theorem drop_nil {α : Type} {l : List α} {i : Nat} (h : l.drop i = []) : l.length ≤ i := by
  rcases Nat.lt_or_ge i l.length with h1 | h1
  · rw [List.drop_eq_getElem_cons h1] at h; cases h
  · exact h1
theorem rd52 {l : List S52} {i : Nat} {x : S52} (h : l[i]? = some x) : rd_T52 l (i : Int) = x := by
  unfold rd_T52; rw [Int.toNat_natCast, List.getD_eq_getElem?_getD, h]; rfl
theorem rd60 {l : List S60} {i : Nat} {x : S60} (h : l[i]? = some x) : rd_T60 l (i : Int) = x := by
  unfold rd_T60; rw [Int.toNat_natCast, List.getD_eq_getElem?_getD, h]; rfl
theorem rd64 {l : List S64} {i : Nat} {x : S64} (h : l[i]? = some x) : rd_T64 l (i : Int) = x := by
  unfold rd_T64; rw [Int.toNat_natCast, List.getD_eq_getElem?_getD, h]; rfl
theorem succ_of {k n : Nat} (h : n < k) : ∃ m, k = m + 1 ∧ n ≤ m := ⟨k - 1, by omega, by omega⟩
def okP (p : S60) : Bool := decide (0 ≤ p.f0 ∧ p.f0 ≤ 49 ∧ 0 ≤ p.f1 ∧ p.f1 ≤ 31)
def okW (w : List S60) : Bool := decide (w.length ≤ 64) && w.all okP
def okV (n : Int) (v : S52) : Bool := decide (v.f0 = n + 1) && (decide (0 ≤ v.f2 ∧ v.f2 ≤ 1099511627776) && okW v.f1.f0)
def okAll (n : Nat) : List S52 → Bool
  | [] => true
  | v :: l => okV n v && okAll (n + 1) l
def chk (l : List S52) : Int := cond (okAll 0 l) 0 1
theorem place_ok (a x y : Int) : feed_Check_1_1.f a x y = some (okP ⟨x, y⟩) := by
  unfold feed_Check_1_1.f
  rw [feed_Take.bounds, feed_Take.bounds]
  simp only [Option.bind_some, okP]
  by_cases h : 0 ≤ x ∧ x ≤ 49
  · simp [h]
  · rw [decide_eq_false h]
    simp
    omega
theorem places_ok (l : List S60) (hl : l.length ≤ 9223372036854775806) : ∀ (s : List S60) (i k : Nat), l.drop i = s → s.length < k → feed_all_api_Place.l0 k l (l.length : Int) (i : Int) = some (s.all okP) := by
  intro s
  induction s with
  | nil =>
    intro i k hs hk
    obtain ⟨k, rfl, _⟩ := succ_of hk
    have := drop_nil hs
    simp only [feed_all_api_Place.l0]
    rw [if_neg (by omega)]
    rfl
  | cons x s ih =>
    intro i k hs hk
    obtain ⟨k, rfl, hk'⟩ := succ_of hk
    obtain ⟨h1, h2, h3⟩ := drop_cons hs
    have hk2 : s.length < k := by simp at hk'; omega
    simp only [feed_all_api_Place.l0]
    rw [if_pos (by omega), if_pos (by omega), if_pos (by omega), rd60 h2, place_ok]
    simp only [Option.bind_some]
    rw [wrap_succ (by omega), ih (i + 1) k h3 hk2]
    cases h : okP x <;> simp [h]
theorem version_ok (i k : Nat) (v : S52) (hi : i < 9223372036854775806) (hw : v.f1.f0.length ≤ 9223372036854775806) (hk : v.f1.f0.length < k) :
    feed_Check_1.f k (i : Int) v.f0 v.f1.f0 v.f2 v.f3 = some (okV i v) := by
  unfold feed_Check_1.f
  rw [wrap_inc (by omega) (by omega), feed_Take.bounds]
  simp only [Option.bind_some, okV, okW]
  by_cases h : v.f0 = (i : Int) + 1
  · rw [if_pos h, decide_eq_true h]
    by_cases h2 : 0 ≤ v.f2 ∧ v.f2 ≤ 1099511627776
    · rw [decide_eq_true h2]
      simp only [if_true, Bool.true_and]
      by_cases h3 : v.f1.f0.length ≤ 64
      · rw [if_pos (by omega), decide_eq_true h3]
        unfold feed_all_api_Place.f
        have := places_ok v.f1.f0 hw v.f1.f0 0 k rfl hk
        rw [show ((0 : Nat) : Int) = 0 from rfl] at this
        rw [this]
        simp
      · rw [if_neg (by omega), decide_eq_false h3]
        simp
    · rw [decide_eq_false h2]
      simp
  · rw [if_neg h, decide_eq_false h]
    simp
def Short (n : Nat) (l : List S52) : Prop := ∀ v ∈ l, v.f1.f0.length ≤ n
theorem versions_ok (l : List S52) (hl : l.length ≤ 9223372036854775806) (N : Nat) (hN : N ≤ 9223372036854775806) (hS : Short N l) : ∀ (s : List S52) (i k : Nat), l.drop i = s → s.length + N < k → feed_all_api_Version.l0 k l (l.length : Int) (i : Int) = some (okAll i s) := by
  intro s
  induction s with
  | nil =>
    intro i k hs hk
    obtain ⟨k, rfl, _⟩ := succ_of hk
    have := drop_nil hs
    simp only [feed_all_api_Version.l0]
    rw [if_neg (by omega)]
    rfl
  | cons x s ih =>
    intro i k hs hk
    obtain ⟨k, rfl, hk'⟩ := succ_of hk
    obtain ⟨h1, h2, h3⟩ := drop_cons hs
    have hx := hS x (List.mem_of_getElem? h2)
    have hk2 : s.length + N < k := by simp at hk'; omega
    simp only [feed_all_api_Version.l0]
    rw [if_pos (by omega), if_pos (by omega), if_pos (by omega), rd52 h2, version_ok i k x (by omega) (by omega) (by omega)]
    simp only [Option.bind_some]
    rw [wrap_succ (by omega), ih (i + 1) k h3 hk2]
    simp only [okAll]
    cases h : okV i x <;> simp
theorem feedCheck_eq (l : List S52) (hl : l.length ≤ 9223372036854775806) (N : Nat) (hN : N ≤ 9223372036854775806) (hS : Short N l) (k : Nat) (hk : l.length + N < k) : feed_Check.f k l = some (chk l) := by
  unfold feed_Check.f feed_all_api_Version.f
  have := versions_ok l hl N hN hS l 0 k rfl hk
  rw [show ((0 : Nat) : Int) = 0 from rfl] at this
  rw [this]
  simp only [Option.bind_some, chk]
  cases okAll 0 l <;> rfl
theorem may_ok (l : List S60) (hl : l.length ≤ 9223372036854775806) : ∀ (s : List S60) (i k : Nat), l.drop i = s → i ≤ 65 → 2 * (65 - i) + 2 ≤ k → chalklineref35_may.l0 k (i : Int) l = some (decide (l.length ≤ 64) && s.all okP) := by
  intro s
  induction s with
  | nil =>
    intro i k hs hi hk
    obtain ⟨k, rfl, _⟩ := succ_of (show 1 < k by omega)
    obtain ⟨k, rfl, _⟩ := succ_of (show 0 < k by omega)
    have := drop_nil hs
    simp only [chalklineref35_may.l0]
    rw [if_neg (by omega)]
    simp only [chalklineref35_may.j1]
    simp
    omega
  | cons x s ih =>
    intro i k hs hi hk
    obtain ⟨k, rfl, _⟩ := succ_of (show 1 < k by omega)
    obtain ⟨k, rfl, _⟩ := succ_of (show 0 < k by omega)
    obtain ⟨h1, h2, h3⟩ := drop_cons hs
    simp only [chalklineref35_may.l0]
    rw [if_pos (by omega)]
    by_cases h65 : i < 65
    · rw [decide_eq_true (by omega : (i : Int) < 65)]
      simp only [chalklineref35_may.j1]
      rw [if_pos trivial, if_pos (by omega), if_pos (by omega), rd60 h2, wrap_succ (by omega), ih (i + 1) k h3 (by omega) (by omega)]
      simp only [List.all_cons, okP]
      by_cases a : x.f0 < 0
      · rw [if_pos a, decide_eq_false (show ¬ (0 ≤ x.f0 ∧ x.f0 ≤ 49 ∧ 0 ≤ x.f1 ∧ x.f1 ≤ 31) by omega)]; simp
      · rw [if_neg a]
        by_cases b : x.f0 ≥ 50
        · rw [if_pos b, decide_eq_false (show ¬ (0 ≤ x.f0 ∧ x.f0 ≤ 49 ∧ 0 ≤ x.f1 ∧ x.f1 ≤ 31) by omega)]; simp
        · rw [if_neg b]
          by_cases c : x.f1 < 0
          · rw [if_pos c, decide_eq_false (show ¬ (0 ≤ x.f0 ∧ x.f0 ≤ 49 ∧ 0 ≤ x.f1 ∧ x.f1 ≤ 31) by omega)]; simp
          · rw [if_neg c]
            by_cases d : x.f1 ≥ 32
            · rw [if_pos d, decide_eq_false (show ¬ (0 ≤ x.f0 ∧ x.f0 ≤ 49 ∧ 0 ≤ x.f1 ∧ x.f1 ≤ 31) by omega)]; simp
            · rw [if_neg d, decide_eq_true (by omega : 0 ≤ x.f0 ∧ x.f0 ≤ 49 ∧ 0 ≤ x.f1 ∧ x.f1 ≤ 31)]; simp
    · rw [decide_eq_false (by omega : ¬ (i : Int) < 65)]
      simp only [chalklineref35_may.j1]
      rw [if_neg (by decide), decide_eq_false (by omega : ¬ (l.length : Int) ≤ 64), decide_eq_false (by omega : ¬ l.length ≤ 64)]
      rfl
theorem mayW (l : List S60) (hl : l.length ≤ 9223372036854775806) (k : Nat) (hk : 132 ≤ k) : chalklineref35_may.f k l = some (okW l) := by
  have := may_ok l hl l 0 k rfl (by omega) (by omega)
  exact this
theorem refVersions_ok (l : List S52) (hl : l.length ≤ 9223372036854775806) (hS : Short 9223372036854775806 l) : ∀ (s : List S52) (i k : Nat), l.drop i = s → s.length + 132 < k → chalklineref35_Check.l0 k l (i : Int) = some (cond (okAll i s) 0 1) := by
  intro s
  induction s with
  | nil =>
    intro i k hs hk
    obtain ⟨k, rfl, _⟩ := succ_of hk
    have := drop_nil hs
    simp only [chalklineref35_Check.l0]
    rw [if_neg (by omega)]
    rfl
  | cons x s ih =>
    intro i k hs hk
    obtain ⟨k, rfl, hk'⟩ := succ_of hk
    obtain ⟨h1, h2, h3⟩ := drop_cons hs
    have hx := hS x (List.mem_of_getElem? h2)
    have hk2 : s.length + 132 < k := by simp at hk'; omega
    simp only [chalklineref35_Check.l0]
    rw [if_pos (by omega), if_pos (by omega), rd52 h2, wrap_succ (by omega), mayW x.f1.f0 hx k (by omega), ih (i + 1) k h3 hk2]
    simp only [Option.bind_some, okAll, okV]
    by_cases a : x.f0 = ((i + 1 : Nat) : Int)
    · rw [if_pos a, decide_eq_true (by omega : x.f0 = (i : Int) + 1)]
      by_cases b : x.f2 < 0
      · rw [if_pos b, decide_eq_false (show ¬ (0 ≤ x.f2 ∧ x.f2 ≤ 1099511627776) by omega)]; simp
      · rw [if_neg b]
        by_cases c : x.f2 > 1099511627776
        · rw [if_pos c, decide_eq_false (show ¬ (0 ≤ x.f2 ∧ x.f2 ≤ 1099511627776) by omega)]; simp
        · rw [if_neg c, decide_eq_true (by omega : 0 ≤ x.f2 ∧ x.f2 ≤ 1099511627776)]
          cases okW x.f1.f0 <;> simp
    · rw [if_neg a, decide_eq_false (show ¬ x.f0 = (i : Int) + 1 by omega)]; simp
theorem few_ok (l : List S52) (hl : l.length ≤ 9223372036854775806) : ∀ (s : List S52) (i k : Nat), l.drop i = s → i ≤ 30 → 2 * (30 - i) + 2 ≤ k → ∃ b, chalklineref35_Few.l0 k l (i : Int) = some b ∧ (b = true → l.length ≤ 20 ∧ Short 70 s) := by
  intro s
  induction s with
  | nil =>
    intro i k hs hi hk
    obtain ⟨k, rfl, _⟩ := succ_of (show 1 < k by omega)
    obtain ⟨k, rfl, _⟩ := succ_of (show 0 < k by omega)
    have := drop_nil hs
    simp only [chalklineref35_Few.l0]
    rw [if_neg (by omega)]
    simp only [chalklineref35_Few.j1]
    exact ⟨_, by rw [if_neg (by decide)], fun h => ⟨by have := of_decide_eq_true h; omega, fun v hv => by cases hv⟩⟩
  | cons x s ih =>
    intro i k hs hi hk
    obtain ⟨k, rfl, _⟩ := succ_of (show 1 < k by omega)
    obtain ⟨k, rfl, _⟩ := succ_of (show 0 < k by omega)
    obtain ⟨h1, h2, h3⟩ := drop_cons hs
    simp only [chalklineref35_Few.l0]
    rw [if_pos (by omega)]
    by_cases h30 : i < 30
    · rw [decide_eq_true (by omega : (i : Int) < 30)]
      simp only [chalklineref35_Few.j1]
      rw [if_pos trivial, if_pos (by omega), if_pos (by omega), rd52 h2, wrap_succ (by omega)]
      by_cases a : (x.f1.f0.length : Int) > 70
      · rw [if_pos a]; exact ⟨false, rfl, fun h => by cases h⟩
      · rw [if_neg a]
        obtain ⟨b, hb, hb2⟩ := ih (i + 1) k h3 (by omega) (by omega)
        refine ⟨b, hb, fun h => ⟨(hb2 h).1, fun v hv => ?_⟩⟩
        rcases List.mem_cons.1 hv with rfl | hv
        · omega
        · exact (hb2 h).2 v hv
    · rw [decide_eq_false (by omega : ¬ (i : Int) < 30)]
      simp only [chalklineref35_Few.j1]
      rw [if_neg (by decide)]
      exact ⟨_, rfl, fun h => by have := of_decide_eq_true h; omega⟩
theorem few_eq (l : List S52) (hl : l.length ≤ 9223372036854775806) (k : Nat) (hk : 62 ≤ k) : ∃ b, chalklineref35_Few.f k l = some b ∧ (b = true → l.length ≤ 20 ∧ Short 70 l) :=
  few_ok l hl l 0 k rfl (by omega) (by omega)
theorem same_refl (l : List S60) (hl : l.length ≤ 9223372036854775806) : ∀ (s : List S60) (i k : Nat), l.drop i = s → s.length < k → chalklineref04_Same.l0 k (i : Int) l l = some true := by
  intro s
  induction s with
  | nil =>
    intro i k hs hk
    obtain ⟨k, rfl, _⟩ := succ_of hk
    have := drop_nil hs
    simp only [chalklineref04_Same.l0]
    rw [if_neg (by omega)]
  | cons x s ih =>
    intro i k hs hk
    obtain ⟨k, rfl, hk'⟩ := succ_of hk
    obtain ⟨h1, h2, h3⟩ := drop_cons hs
    simp only [chalklineref04_Same.l0]
    rw [if_pos (by omega), if_pos (by omega), if_pos (by omega), wrap_succ (by omega), ih (i + 1) k h3 (by simp at hk'; omega)]
    simp
theorem same_eq (l : List S60) (hl : l.length ≤ 9223372036854775806) (k : Nat) (hk : l.length < k) : chalklineref04_Same.f k l l = some true := by
  unfold chalklineref04_Same.f
  rw [if_pos rfl]
  exact same_refl l hl l 0 k rfl hk
theorem moves_refl (l : List S64) (hl : l.length ≤ 9223372036854775806) : ∀ (s : List S64) (i k : Nat), l.drop i = s → s.length < k → chalklineref04_Moves.l0 k l l (i : Int) = some true := by
  intro s
  induction s with
  | nil =>
    intro i k hs hk
    obtain ⟨k, rfl, _⟩ := succ_of hk
    have := drop_nil hs
    simp only [chalklineref04_Moves.l0]
    rw [if_neg (by omega)]
  | cons x s ih =>
    intro i k hs hk
    obtain ⟨k, rfl, hk'⟩ := succ_of hk
    obtain ⟨h1, h2, h3⟩ := drop_cons hs
    simp only [chalklineref04_Moves.l0]
    rw [if_pos (by omega), if_pos (by omega), if_pos (by omega), wrap_succ (by omega), ih (i + 1) k h3 (by simp at hk'; omega)]
    simp
theorem moves_eq (l : List S64) (hl : l.length ≤ 9223372036854775806) (k : Nat) (hk : l.length < k) : chalklineref04_Moves.f k l l = some true := by
  unfold chalklineref04_Moves.f
  rw [if_pos rfl]
  exact moves_refl l hl l 0 k rfl hk
theorem msgs_eq (a b c d : Int) (l : List S60) (m : List S64) (hl : l.length ≤ 9223372036854775806) (hm : m.length ≤ 9223372036854775806) (k : Nat) (hk : l.length < k) (hk2 : m.length < k) : chalklineref35_Msgs.f k a b c d l m a b c d l m = some true := by
  unfold chalklineref35_Msgs.f
  simp [same_eq l hl k hk, moves_eq m hm k hk2]
def diffGo (n : Nat) : List S60 → List S60 → List S64
  | a :: xs, b :: ys => if a.f0 = b.f0 ∧ a.f1 = b.f1 then diffGo (n + 1) xs ys else ⟨n, b⟩ :: diffGo (n + 1) xs ys
  | _, _ => []
theorem diffGo_len : ∀ (n : Nat) (a b : List S60), (diffGo n a b).length ≤ b.length
  | _, [], _ => by simp [diffGo]
  | _, _ :: _, [] => by simp [diffGo]
  | n, a :: xs, b :: ys => by
    simp only [diffGo]
    have := diffGo_len (n + 1) xs ys
    split <;> simp <;> omega
theorem diff_loop (a b : List S60) (hab : a.length = b.length) (hl : b.length ≤ 5864062014805) : ∀ (s t : List S60) (i k : Nat) (acc : List S64), a.drop i = s → b.drop i = t → acc.length + t.length ≤ b.length → t.length < k →
    week_Diff.l0 k acc 0 b (b.length : Int) (i : Int) a = some (acc ++ diffGo i s t, 0) := by
  intro s t
  induction t generalizing s with
  | nil =>
    intro i k acc hs ht hacc hk
    obtain ⟨k, rfl, _⟩ := succ_of hk
    have := drop_nil ht
    simp only [week_Diff.l0]
    rw [if_neg (by omega)]
    cases s <;> simp [diffGo]
  | cons y t ih =>
    intro i k acc hs ht hacc hk
    obtain ⟨k, rfl, hk'⟩ := succ_of hk
    obtain ⟨h1, h2, h3⟩ := drop_cons ht
    match s, hs with
    | [], hs => have := drop_nil hs; omega
    | x :: s, hs =>
      obtain ⟨g1, g2, g3⟩ := drop_cons hs
      simp only [List.length_cons] at hk' hacc
      simp only [week_Diff.l0]
      rw [if_pos (by omega), if_pos (by omega), if_pos (by omega), if_pos (by omega), rd60 h2, rd60 g2, wrap_succ (by omega)]
      by_cases e : x.f0 = y.f0 ∧ x.f1 = y.f1
      · rw [if_neg (by simp [e.1, e.2]), ih s (i + 1) k acc g3 h3 (by omega) (by omega)]
        simp only [diffGo]
        rw [if_pos e]
      · rw [if_pos (by simp; omega), if_pos (by omega), ih s (i + 1) k _ g3 h3 (by simp; omega) (by omega)]
        simp only [diffGo]
        rw [if_neg e]
        simp
theorem diff_eq (a b : List S60) (hl : b.length ≤ 5864062014805) (k : Nat) (hk : b.length < k) : week_Diff.f k a b = some (if a.length = b.length then (diffGo 0 a b, 0) else ([], 1)) := by
  unfold week_Diff.f
  by_cases h : a.length = b.length
  · rw [if_pos (by omega), if_pos h]
    exact diff_loop a b h hl a b 0 k [] rfl rfl (by simp) hk
  · rw [if_neg (by omega), if_neg h]
def applyGo (n : Nat) (last : Int) : List S64 → List S60 → List S60 × Int
  | [], x => (x, 0)
  | m :: l, x => if m.f0 ≤ last ∨ m.f0 ≥ n then ([], 1) else applyGo n m.f0 l (x.set m.f0.toNat m.f1)
theorem apply_loop (w : List S60) (l : List S64) (hl : l.length ≤ 9223372036854775806) : ∀ (s : List S64) (i k : Nat) (last : Int) (x : List S60), l.drop i = s → -1 ≤ last → x.length = w.length → s.length < k →
    week_Apply.l0 k last l (l.length : Int) (i : Int) w x = some (applyGo w.length last s x) := by
  intro s
  induction s with
  | nil =>
    intro i k last x hs h0 hx hk
    obtain ⟨k, rfl, _⟩ := succ_of hk
    have := drop_nil hs
    simp only [week_Apply.l0]
    rw [if_neg (by omega)]
    rfl
  | cons y s ih =>
    intro i k last x hs h0 hx hk
    obtain ⟨k, rfl, hk'⟩ := succ_of hk
    obtain ⟨h1, h2, h3⟩ := drop_cons hs
    simp only [List.length_cons] at hk'
    simp only [week_Apply.l0]
    rw [if_pos (by omega), if_pos (by omega), if_pos (by omega), rd64 h2, wrap_succ (by omega)]
    simp only [applyGo]
    by_cases a : y.f0 ≤ last
    · rw [if_pos a, if_pos (.inl a)]
    · rw [if_neg a]
      by_cases b : y.f0 ≥ (w.length : Int)
      · rw [if_pos b, if_pos (.inr b)]
      · rw [if_neg b, if_pos (by omega), if_pos (by omega), if_neg (by omega)]
        exact ih (i + 1) k y.f0 _ h3 (by omega) (by rw [List.length_set]; exact hx) (by omega)
theorem apply_eq (w : List S60) (l : List S64) (hw : w.length < 8796093022208) (hl : l.length ≤ 9223372036854775806) (k : Nat) (hk : l.length < k) : week_Apply.f k w l = some (applyGo w.length (-1) l w) := by
  unfold week_Apply.f slices_Clone_api_Place_api_Place.f
  rw [if_pos hw]
  simp only [Option.bind_some]
  exact apply_loop w l hl l 0 k (-1) w rfl (by omega) rfl hk
theorem applyGo_len (n : Nat) : ∀ (l : List S64) (last : Int) (x : List S60), (applyGo n last l x).1.length ≤ x.length
  | [], _, _ => Nat.le_refl _
  | m :: l, last, x => by
    simp only [applyGo]
    split
    · simp
    · have := applyGo_len n l m.f0 (x.set m.f0.toNat m.f1)
      rwa [List.length_set] at this
abbrev RepT := Int × Int × Int × Int × (List (S60)) × (List (S64)) × Int
def lastOf (l : List S52) : S52 := rd_T52 l ((l.length : Int) - 1)
def replyS (l : List S52) (no dst : Int) : RepT :=
  if ¬ chk l = 0 ∨ ¬ (0 ≤ no ∧ no ≤ 1099511627776) ∨ ¬ (0 ≤ dst ∧ dst ≤ 7) then (0, 0, 0, 0, [], [], 1)
  else if no ≥ (l.length : Int) then (0, 0, 0, 0, [], [], 341)
  else if no > 0 ∧ (rd_T52 l (no - 1)).f1.f0.length = (lastOf l).f1.f0.length then (2, dst, no, (lastOf l).f0, [], diffGo 0 (rd_T52 l (no - 1)).f1.f0 (lastOf l).f1.f0, 0)
  else (1, dst, 0, (lastOf l).f0, (lastOf l).f1.f0, [], 0)
theorem chk_or (l : List S52) : chk l = 0 ∨ chk l = 1 := by unfold chk; cases okAll 0 l <;> simp
theorem short_rd {n : Nat} {l : List S52} (h : Short n l) (i : Int) : (rd_T52 l i).f1.f0.length ≤ n := by
  unfold rd_T52
  rw [List.getD_eq_getElem?_getD]
  cases e : l[i.toNat]? with
  | none => simp [z52, z25]
  | some v => exact h v (List.mem_of_getElem? e)
theorem reply_j (l : List S52) (hl : l.length ≤ 1000) (N : Nat) (hN : N ≤ 1000) (hS : Short N l) (no dst : Int) (h0 : 0 ≤ no) (k : Nat) (hk : N + 1 < k) (ht : ¬ no ≥ (l.length : Int)) :
    feed_Reply.j0 k l no dst 0 false 0 0 0 0 = some (if no > 0 ∧ (rd_T52 l (no - 1)).f1.f0.length = (lastOf l).f1.f0.length then (2, dst, no, (lastOf l).f0, [], diffGo 0 (rd_T52 l (no - 1)).f1.f0 (lastOf l).f1.f0, 0)
      else (1, dst, 0, (lastOf l).f0, (lastOf l).f1.f0, [], 0)) := by
  obtain ⟨k, rfl, hk'⟩ := succ_of hk
  have hlast : (lastOf l).f1.f0.length ≤ N := short_rd hS _
  simp only [feed_Reply.j0]
  rw [if_neg (by decide), if_neg ht, wrap_pred (by omega) (by omega), if_pos (by omega), if_pos (by omega)]
  rw [show rd_T52 l ((l.length : Int) - 1) = lastOf l from rfl]
  by_cases a : no > 0
  · rw [if_pos a, wrap_pred (by omega) (by omega), if_pos (by omega), if_pos (by omega), diff_eq _ _ (by omega) k (by omega)]
    simp only [Option.bind_some]
    by_cases b : (rd_T52 l (no - 1)).f1.f0.length = (lastOf l).f1.f0.length
    · simp only [if_pos b, if_pos (And.intro a b), if_true]
    · simp only [if_neg b, if_neg (fun z : no > 0 ∧ (rd_T52 l (no - 1)).f1.f0.length = (lastOf l).f1.f0.length => b z.2)]
      unfold slices_Clone_api_Place_api_Place.f
      rw [if_neg (by decide), if_pos (by omega)]; rfl
  · rw [if_neg a, if_neg (fun z => a z.1)]
    unfold slices_Clone_api_Place_api_Place.f
    rw [if_pos (by omega)]; rfl
theorem reply_eq (l : List S52) (hl : l.length ≤ 1000) (N : Nat) (hN : N ≤ 1000) (hS : Short N l) (no dst : Int) (k : Nat) (hk : l.length + N + 1 < k) : feed_Reply.f k l no dst = some (replyS l no dst) := by
  unfold feed_Reply.f
  rw [feedCheck_eq l (by omega) N (by omega) hS k (by omega), feed_Take.bounds, feed_Take.bounds]
  simp only [Option.bind_some]
  have hbad : feed_Reply.j0 k l no dst 0 true 0 0 0 0 = some (0, 0, 0, 0, [], [], 1) := by
    obtain ⟨k, rfl, _⟩ := succ_of (show 0 < k by omega)
    simp [feed_Reply.j0]
  unfold replyS
  by_cases a : chk l = 0
  · rw [if_pos a]
    by_cases b : 0 ≤ no ∧ no ≤ 1099511627776
    · rw [decide_eq_true b, if_pos rfl]
      by_cases c : 0 ≤ dst ∧ dst ≤ 7
      · rw [decide_eq_true c, if_neg (by simp only [a, b, c]; simp)]
        by_cases d : no ≥ (l.length : Int)
        · rw [if_pos d]
          obtain ⟨k, rfl, _⟩ := succ_of (show 0 < k by omega)
          simp only [feed_Reply.j0, Bool.not_true]
          rw [if_neg (by decide), if_pos d]
        · rw [if_neg d]
          exact reply_j l hl N hN hS no dst b.1 k (by omega) d
      · rw [decide_eq_false c, if_pos (.inr (.inr c))]; exact hbad
    · rw [decide_eq_false b, if_neg (by decide), if_pos (.inr (.inl b))]; exact hbad
  · rw [if_neg a, if_pos (.inl a)]
    rcases chk_or l with e | e
    · exact absurd e a
    · rw [e]; exact hbad
theorem replyS_len {l : List S52} {N : Nat} (hS : Short N l) (no dst : Int) : (replyS l no dst).2.2.2.2.1.length ≤ N ∧ (replyS l no dst).2.2.2.2.2.1.length ≤ N := by
  unfold replyS
  have h1 : (lastOf l).f1.f0.length ≤ N := short_rd hS _
  have h2 := diffGo_len 0 (rd_T52 l (no - 1)).f1.f0 (lastOf l).f1.f0
  split
  · simp
  · split
    · simp
    · split
      · simp; omega
      · simp; omega
abbrev TakT := Int × (List S60) × Int
def takeS (n0 : Int) (l1 : List S60) (m0 m2 m3 : Int) (l4 : List S60) (l5 : List S64) : TakT :=
  if (m0 = 1 ∨ m0 = 2) ∧ (0 ≤ n0 ∧ n0 ≤ 1099511627776) ∧ (1 ≤ m3 ∧ m3 ≤ 1099511627776) then
    if m3 ≤ n0 then (0, [], 341)
    else if m0 = 1 then (m3, l4, 0)
    else if m2 = n0 then (if (applyGo l1.length (-1) l5 l1).2 = 0 then (m3, (applyGo l1.length (-1) l5 l1).1, 0) else (0, [], (applyGo l1.length (-1) l5 l1).2))
    else (0, [], 350)
  else (0, [], 1)
theorem take_eq (k : Nat) (n0 : Int) (l1 : List S60) (m0 m1 m2 m3 : Int) (l4 : List S60) (l5 : List S64) (h1 : l1.length < 8796093022208) (h4 : l4.length < 8796093022208) (h5 : l5.length ≤ 9223372036854775806) (hk : l5.length < k) :
    feed_Take.f k n0 l1 m0 m1 m2 m3 l4 l5 = some (takeS n0 l1 m0 m2 m3 l4 l5) := by
  unfold feed_Take.f feed_Take.eff takeS
  rw [apply_eq l1 l5 h1 h5 k hk]
  simp only [slices_Clone_api_Place_api_Place.f, if_pos h4, Option.bind_some]
  generalize applyGo l1.length (-1) l5 l1 = z
  by_cases m : m0 = 1 ∨ m0 = 2
  · rw [if_pos m]
    by_cases a : 0 ≤ n0
    · rw [if_pos a]
      by_cases b : n0 ≤ 1099511627776
      · rw [if_pos b]
        by_cases c : 1 ≤ m3
        · rw [if_pos c]
          by_cases d : m3 ≤ 1099511627776
          · rw [if_pos d, if_pos (show (m0 = 1 ∨ m0 = 2) ∧ (0 ≤ n0 ∧ n0 ≤ 1099511627776) ∧ (1 ≤ m3 ∧ m3 ≤ 1099511627776) from ⟨m, ⟨a, b⟩, c, d⟩)]
            by_cases f : m3 ≤ n0
            · rw [if_pos f, if_pos f]
            · rw [if_neg f, if_neg f]
              by_cases g : m0 = 1
              · simp [g]
              · by_cases o : m2 = n0
                · by_cases hz : z.2 = 0
                  · simp [g, o, hz]
                  · simp [g, o, hz]
                · simp [g, o]
          · rw [if_neg d, if_neg (fun z => d z.2.2.2)]
        · rw [if_neg c, if_neg (fun z => c z.2.2.1)]
      · rw [if_neg b, if_neg (fun z => b z.2.1.2)]
    · rw [if_neg a, if_neg (fun z => a z.2.1.1)]
  · rw [if_neg m, if_neg (fun z => m z.1)]
theorem takeS_len (n0 : Int) (l1 : List S60) (m0 m2 m3 : Int) (l4 : List S60) (l5 : List S64) : (takeS n0 l1 m0 m2 m3 l4 l5).2.1.length ≤ max l1.length l4.length := by
  have hlen := applyGo_len l1.length l5 (-1) l1
  unfold takeS
  repeat' split
  all_goals first | (simp; done) | (simp; omega)
end Go.Proofs.Ytfdhnmijaobbdaa.S
end
section
namespace Go.Proofs.Ytfdhnmijaobbdaa.Pure
open Go.RowKit Go.Proofs.YtfdhnmijaobbdaaW.PrintWords Go.Proofs.YtfdhnmijaobbdaaW.PrintLast Go.Proofs.YtfdhnmijaobbdaaW.PrintMore Go.Proofs.Ytfdhnmijaobbdaa.S
theorem rd25 {l : List S25} {i : Nat} {x : S25} (h : l[i]? = some x) : rd_T25 l (i : Int) = x := by
  unfold rd_T25; rw [Int.toNat_natCast, List.getD_eq_getElem?_getD, h]; rfl
theorem na_l3 (l0 : List S52) (hl : l0.length ≤ 20) (hS : Short 70 l0) : ∀ (s : List S52) (i k : Nat), l0.drop i = s → s.length + 72 ≤ k → chalklinelaw35_FeedNoAlias.l3 k l0 (l0.map fun v => v.f1) true (i : Int) = some true := by
  intro s
  induction s with
  | nil =>
    intro i k hs hk
    obtain ⟨k, rfl, _⟩ := succ_of (show 0 < k by simp at hk; omega)
    have := drop_nil hs
    simp only [chalklinelaw35_FeedNoAlias.l3]
    rw [if_neg (by omega)]
  | cons x s ih =>
    intro i k hs hk
    simp only [List.length_cons] at hk
    obtain ⟨k, rfl, hk'⟩ := succ_of (show 72 < k by omega)
    obtain ⟨h1, h2, h3⟩ := drop_cons hs
    have hx : x.f1.f0.length ≤ 70 := hS x (List.mem_of_getElem? h2)
    have hm : (l0.map fun v => v.f1)[i]? = some x.f1 := by rw [List.getElem?_map, h2]; rfl
    simp only [chalklinelaw35_FeedNoAlias.l3]
    rw [if_pos (by omega), if_pos (by omega), if_pos (by rw [List.length_map]; omega), rd52 h2, rd25 hm, same_eq _ (by omega) k (by omega)]
    simp only [Option.bind_some, if_true]
    rw [wrap_succ (by omega)]
    exact ih (i + 1) k h3 (by omega)
theorem na_l2 (l0 : List S52) (hl : l0.length ≤ 20) (hS : Short 70 l0) (a b c d : Int) (m : List S64) : ∀ (n : Nat) (x : List S60) (i k : Nat), x.length = i + n → x.length ≤ 1000 → n + 101 ≤ k → chalklinelaw35_FeedNoAlias.l2 k l0 (l0.map fun v => v.f1) true (i : Int) a b c d x m = some true := by
  intro n
  induction n with
  | zero =>
    intro x i k hx hx2 hk
    obtain ⟨k, rfl, hk'⟩ := succ_of (show 100 < k by omega)
    simp only [chalklinelaw35_FeedNoAlias.l2]
    rw [if_neg (by omega)]
    exact na_l3 l0 hl hS l0 0 k rfl (by omega)
  | succ n ih =>
    intro x i k hx hx2 hk
    obtain ⟨k, rfl, hk'⟩ := succ_of (show n + 101 < k by omega)
    simp only [chalklinelaw35_FeedNoAlias.l2]
    rw [if_pos (by omega), if_pos (by omega), wrap_succ (by omega)]
    exact ih _ (i + 1) k (by rw [List.length_set]; omega) (by rw [List.length_set]; omega) hk'
theorem na_j3 (l0 : List S52) (hl : l0.length ≤ 20) (hS : Short 70 l0) (a : Int) (hr : (replyS l0 a 0).2.2.2.2.2.2 = 0) (k : Nat) (hk : 300 ≤ k) : chalklinelaw35_FeedNoAlias.j3 k l0 a (l0.map fun v => v.f1) true (replyS l0 a 0).1 (replyS l0 a 0).2.1 (replyS l0 a 0).2.2.1 (replyS l0 a 0).2.2.2.1 (replyS l0 a 0).2.2.2.2.1 (replyS l0 a 0).2.2.2.2.2.1 = some true := by
  obtain ⟨k, rfl, hk'⟩ := succ_of (show 299 < k by omega)
  obtain ⟨q1, q2⟩ := replyS_len hS a 0
  simp only [chalklinelaw35_FeedNoAlias.j3]
  rw [reply_eq l0 (by omega) 70 (by omega) hS a 0 k (by omega)]
  simp only [Option.bind_some]
  rw [if_pos hr, msgs_eq _ _ _ _ _ _ (by omega) (by omega) k (by omega) (by omega)]
  simp only [Option.bind_some]
  obtain ⟨k, rfl, hk'⟩ := succ_of (show 298 < k by omega)
  simp only [chalklinelaw35_FeedNoAlias.j4, Bool.not_true]
  rw [if_neg (by decide)]
  exact na_l2 l0 hl hS _ _ _ _ _ _ _ 0 k (Nat.zero_add _).symm (by omega) (by omega)
theorem na_l1 (l0 : List S52) (hl : l0.length ≤ 20) (hS : Short 70 l0) (a : Int) (hr : (replyS l0 a 0).2.2.2.2.2.2 = 0) (e f : Int) : ∀ (n : Nat) (x : List S60) (i k : Nat), x.length = i + n → x.length ≤ 1000 → n + 301 ≤ k →
    chalklinelaw35_FeedNoAlias.l1 k l0 a (l0.map fun v => v.f1) e true (i : Int) (replyS l0 a 0).1 (replyS l0 a 0).2.1 (replyS l0 a 0).2.2.1 (replyS l0 a 0).2.2.2.1 (replyS l0 a 0).2.2.2.2.1 (replyS l0 a 0).2.2.2.2.2.1 f x = some true := by
  intro n
  induction n with
  | zero =>
    intro x i k hx hx2 hk
    obtain ⟨k, rfl, hk'⟩ := succ_of (show 300 < k by omega)
    simp only [chalklinelaw35_FeedNoAlias.l1]
    rw [if_neg (show ¬ ((i : Int) < (x.length : Int)) by omega), na_j3 l0 hl hS a hr k (by omega)]
    simp
  | succ n ih =>
    intro x i k hx hx2 hk
    obtain ⟨k, rfl, hk'⟩ := succ_of (show n + 301 < k by omega)
    simp only [chalklinelaw35_FeedNoAlias.l1]
    rw [if_pos (show ((i : Int) < (x.length : Int)) by omega), if_pos (show (0 : Int) ≤ (i : Int) by omega), wrap_succ (by omega), na_j3 l0 hl hS a hr k (by omega), ih _ (i + 1) k (by rw [List.length_set]; omega) (by rw [List.length_set]; omega) hk']
    simp
theorem na_l0 (l0 : List S52) (hl : l0.length ≤ 20) (hS : Short 70 l0) (a c : Int) (d : List S60) (hd : d.length ≤ 70) : ∀ (s : List S52) (i k : Nat), l0.drop i = s → s.length + 500 ≤ k →
    chalklinelaw35_FeedNoAlias.l0 k l0 a ((l0.take i).map fun v => v.f1) (i : Int) c d = some true := by
  intro s
  induction s with
  | nil =>
    intro i k hs hk
    obtain ⟨k, rfl, hk'⟩ := succ_of (show 499 < k by simp at hk; omega)
    have h0 := drop_nil hs
    obtain ⟨q1, q2⟩ := replyS_len hS a 0
    simp only [chalklinelaw35_FeedNoAlias.l0]
    rw [if_neg (by omega), List.take_of_length_le h0, reply_eq l0 (by omega) 70 (by omega) hS a 0 k (by omega)]
    simp only [Option.bind_some]
    by_cases hr : (replyS l0 a 0).2.2.2.2.2.2 = 0
    · rw [if_pos hr, take_eq k c d _ _ _ _ _ _ (by omega) (by omega) (by omega) (by omega)]
      simp only [Option.bind_some]
      have ht := takeS_len c d (replyS l0 a 0).1 (replyS l0 a 0).2.2.1 (replyS l0 a 0).2.2.2.1 (replyS l0 a 0).2.2.2.2.1 (replyS l0 a 0).2.2.2.2.2.1
      rw [msgs_eq _ _ _ _ _ _ (by omega) (by omega) k (by omega) (by omega)]
      simp only [Option.bind_some]
      exact na_l1 l0 hl hS a hr _ _ _ _ 0 k (Nat.zero_add _).symm (by omega) (by omega)
    · rw [if_neg hr]
  | cons x s ih =>
    intro i k hs hk
    simp only [List.length_cons] at hk
    obtain ⟨k, rfl, hk'⟩ := succ_of (show s.length + 500 < k by omega)
    obtain ⟨h1, h2, h3⟩ := drop_cons hs
    have hx : x.f1.f0.length ≤ 70 := hS x (List.mem_of_getElem? h2)
    simp only [chalklinelaw35_FeedNoAlias.l0]
    rw [if_pos (by omega)]
    simp only [Option.bind_some]
    rw [if_pos (by omega), rd52 h2, if_pos (by simp; omega), if_pos (by rw [List.length_map, List.length_take]; omega), wrap_succ (by omega)]
    have ht : (l0.take i).map (fun v => v.f1) ++ [(⟨[] ++ x.f1.f0⟩ : S25)] = (l0.take (i + 1)).map fun v => v.f1 := by
      rw [List.take_add_one, h2]
      simp
    rw [ht]
    exact ih (i + 1) k h3 hk'
theorem FeedNoAlias : ∀ (l0 : List (S52)) (a1 : Int) (x2 : S27), (l0.length ≤ maxLen ∧ ∀ z_ ∈ l0, wf52 z_) → (Lit.int .i64 a1).wf = true → wf27 x2 → l0.length * 48 ≤ 140737488351232 → ∃ k, chalklinelaw35_FeedNoAlias.f k l0 a1 x2.f0 x2.f1.f0 = some true := by
  intro l0 a1 x2 hl w1 w2 _
  refine ⟨1000, ?_⟩
  unfold chalklinelaw35_FeedNoAlias.f
  simp only [chalklinelaw35_live.f, Option.bind_some, if_true]
  have hl1 : l0.length ≤ 9223372036854775806 := by have := hl.1; unfold maxLen at this; omega
  obtain ⟨b, hb, hb2⟩ := few_eq l0 hl1 1000 (by omega)
  rw [hb]
  simp only [Option.bind_some]
  cases b with
  | false => rfl
  | true =>
    obtain ⟨hlen, hS⟩ := hb2 rfl
    rw [if_pos rfl]
    by_cases h : (x2.f1.f0.length : Int) > 70
    · rw [if_pos h]; rfl
    · rw [if_neg h, feedCheck_eq l0 hl1 70 (by omega) hS 1000 (by omega)]
      simp only [Option.bind_some]
      rw [show (1000 : Nat) = 999 + 1 from rfl]
      simp only [chalklinelaw35_FeedNoAlias.j0]
      rcases chk_or l0 with hc | hc
      · rw [hc, if_neg (by decide)]
        exact na_l0 l0 hlen hS a1 _ _ (by omega) l0 0 999 rfl (by omega)
      · rw [hc]; rfl
end Go.Proofs.Ytfdhnmijaobbdaa.Pure
end
section
namespace Go.Proofs.Ytfdhnmijaobbdaa.feedNoAlias
open Go.ChangeShapes Go.WideShapes Go.ChangeAt Go.RowKit Go.Proofs.YtfdhnmijaobbdaaW.PrintWords Go.Proofs.YtfdhnmijaobbdaaW.PrintLast Go.Proofs.YtfdhnmijaobbdaaW.PrintMore Go.Proofs.Ytfdhnmijaobbdaa.S
open Go.ChangeMaps (open_string shut_string)
set_option linter.unusedVariables false
theorem own : ownKnob Try.prog.godebug = none := by kernel_rfl
theorem laidOut : laidOutB Try.prog = true := by kernel_rfl
set_option maxRecDepth 100000 in
theorem lifted (os : Os) (started : os.Started) (H : Type) (enc : TypeId × Value → H) :
    ReturnsInHanded {} Try.checked os 10 .any (Rows.feedNoAliasSpec.pre6 enc Try.prog Try.f10 Rows.feedNoAliasRow.domain false) (Rows.feedNoAliasSpec.post enc Try.prog Try.f10 false true false false) := by
  refine returnsInHanded_of_change_sized (C := Try.checked) own started (by kernel_rfl) Try.func10
    (ChangeSpec.witness6 (enc := enc) (C := Try.checked) false ⟨#[], #[.slice none 0 0, .int .i64 0, .agg #[.int .i64 0, .slice none 0 0]], []⟩ 8 (by kernel_rfl) (by kernel_rfl) (by kernel_rfl) (by kernel_rfl)) ?_
  intro W base args ds gs before hval0 hW hcnd hsz0 _
  have hsz : (DataW.weightsEach Try.prog (Try.f10.params.toList ++ Rows.feedNoAliasSpec.plain.varTypes Try.prog) (ds ++ gs)).all (· ≤ reachBytes) = true := hsz0
  have hval : ∀ (j : Nat) t v, Try.f10.params[j]? = some t → args[j]? = some v → Value.okWide Try.prog W .any base t v := hval0
  have hW' := hW
  obtain ⟨p, q, hA0, hV, rfl, hfz, hnd⟩ := hW
  have hA : DataW.TrodAll enc Try.prog W 0 (fun _ => true) true Try.f10.params.toList args.toList ds p := hA0
  rw [Try.params10] at hA hval hsz
  obtain ⟨v0, vs0, d0, ds0, p0, q0, hargs, rfl, rfl, h0, r0⟩ := trodAll_cons hA
  obtain ⟨v1, vs1, d1, ds1, p1, q1, rfl, rfl, rfl, h1, r1⟩ := trodAll_cons r0
  obtain ⟨v2, vs2, d2, ds2, p2, q2, rfl, rfl, rfl, h2, r2⟩ := trodAll_cons r1
  obtain ⟨rfl, rfl, rfl⟩ := trodAll_nil r2
  obtain rfl : args = #[v0, v1, v2] := by cases args; simp_all
  obtain ⟨rfl, rfl⟩ := trodVars_none hV
  have k0 := h0
  have lt0 : ∀ x ∈ p0, x.block < W.heap.size := by obtain ⟨m, hm⟩ := k0; exact DataW.trod_lt m _ _ _ hm
  obtain ⟨A0, c0, l0, rfl, hc0, hr0, w0⟩ := arg_slice Try.underlying22 (opens_slice Try.underlying22 (by kernel_rfl) opens52) (hval 0 22 v0 rfl rfl) h0
  have y0 : l0.length * 48 ≤ 140737488351232 := sized_any hsz (j := 0) (t := 22) rfl rfl Try.underlying22 (by kernel_rfl) k0
  obtain ⟨a1, rfl, rfl, rfl, w1⟩ := open_int Try.underlying3 (hval 1 3 v1 rfl rfl) h1
  have k2 := h2
  have lt2 : ∀ x ∈ p2, x.block < W.heap.size := by obtain ⟨m, hm⟩ := k2; exact DataW.trod_lt m _ _ _ hm
  obtain ⟨x2, cs2, rfl, hK2, w2⟩ := arg_struct Try.underlying27 opens27 (hval 2 27 v2 rfl rfl) h2
  obtain ⟨A2_1, c2_1, rfl, hc2_1, hr2_1⟩ := k27_open hK2
  clear hA0 hval0 hsz0 hsz
  obtain ⟨k, hp⟩ := Pure.FeedNoAlias l0 a1 x2 w0 w1 w2 y0
  refine (chalklinelaw35_FeedNoAlias.calls k _ _ l0 a1 x2.f0 _ _ x2.f1.f0 true W hr0 hc0 hr2_1 hc2_1 hp).mono fun e W' ⟨he, bel⟩ => ?_
  subst he
  exact ⟨_, rfl, _, _, _, [], _, [], hW', trodAll_mk1 (shut_bool Try.underlying4 _), (trodAll_cons_mk (Below.trod laidOut (by kernel_rfl) (of_decide_eq_true (by kernel_rfl)) k0 bel lt0) (trodAll_cons_mk (shut_int Try.underlying3 w1) (trodAll_cons_mk (Below.trod laidOut (by kernel_rfl) (of_decide_eq_true (by kernel_rfl)) k2 bel lt2) trodAll_mk0))), rfl, bel.frame _, fun h => by cases h⟩
theorem over : Rows.feedNoAliasRow.holds Try.pinned (OpenSpec.ofChange Rows.feedNoAliasSpec) :=
  OpenClaim.holds_of_wide 10 Try.f10 rfl rfl rfl rfl rfl rfl rfl ⟨rfl, rfl, rfl, rfl, rfl⟩ rfl rfl rfl rfl rfl (by kernel_rfl) Try.func10 (by kernel_rfl)
    (of_decide_eq_true (by kernel_rfl)) (by unfold Func.isWrapper; first | (rw [if_pos (by decide +kernel)]; kernel_rfl) | (rw [if_neg (by decide +kernel)]; exact ⟨rfl, rfl⟩))
    (fun os started H enc _ => lifted os started H enc)
theorem proved : Rows.FeedNoAliasSaid := over
#print axioms proved
end Go.Proofs.Ytfdhnmijaobbdaa.feedNoAlias
namespace Go.Proofs.Ytfdhnmijaobbdaa
theorem feedNoAlias_holds : Rows.FeedNoAliasSaid := feedNoAlias.proved
end Go.Proofs.Ytfdhnmijaobbdaa
end
