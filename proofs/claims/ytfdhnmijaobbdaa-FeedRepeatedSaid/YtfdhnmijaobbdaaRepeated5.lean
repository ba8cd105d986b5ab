/- feedRepeated_holds: part 5 of the proof: the plain functions, the walks of the program's functions and the laws about them. Conditions: those that each theorem states. -/
import Derived.Deep.Slices
import Derived.ChangeSame
import Derived.WideShapes
import Derived.OpenShut
import Derived.SizedLaws
import Derived.ProofKit
import Derived.WalkKit
import Derived.ShutString
import Derived.ChangeOld
import Derived.Below
import Derived.Test.YtfdhnmijaobbdaaRepeated1
import Derived.Test.YtfdhnmijaobbdaaRepeated2
import Derived.Test.YtfdhnmijaobbdaaRepeated3
import Derived.Test.YtfdhnmijaobbdaaRepeated4
section
namespace Go.Proofs.YtfdhnmijaobbdaaW.PrintMore
open Go.RowKit Go.Proofs.YtfdhnmijaobbdaaW.PrintWords Go.Proofs.YtfdhnmijaobbdaaW.PrintLast Go.ChangeShapes Go.WideShapes
def Opens {α : Type} (P : Program) (t : TypeId) (d : Kd α) (wf : α → Prop) : Prop :=
  ∀ (H : Type) (enc : TypeId × Value → H) (w : World) (base : Nat) (spare : Nat → Bool) (held : Bool) (fuel : Nat) (cs : List Value) (x : DataW H × List MemPlace), DataW.trod enc P w base spare held fuel t cs = some x → ∃ y, d.K w y cs ∧ wf y
section
variable {P : Program} {t : TypeId}
theorem opens_int {k : IntKind} (ht : P.underlying t = some (.int k)) : Opens P t (Kd.int k) (fun n => (Lit.int k n).wf = true) := by
  intro H enc w base spare held fuel cs x h
  obtain ⟨n, rfl, _, hw⟩ := DataW.trod_int ht h
  exact ⟨n, rfl, hw⟩
theorem cells_cell {w : World} {base n : Nat} {a : Addr} {cs : List Value} (h : w.cells? base a n = some cs) : cs.length = n ∧ ∀ i u, cs[i]? = some u → w.cell? (a.add i) = some u := by
  obtain ⟨_, hl, hc⟩ := World.cells?_some h
  refine ⟨hl, fun i u hu => ?_⟩
  have hi : i < n := by rw [← hl]; exact (List.getElem?_eq_some_iff.1 hu).1
  rw [hc i hi, hu]
theorem opens_slice {α : Type} {e : TypeId} {d : Kd α} {wf : α → Prop} (ht : P.underlying t = some (.slice e)) (hsz : P.cellsOf e = d.sz) (h : Opens P e d wf) :
    Opens P t (Kd.slice e d) (fun l => l.length ≤ maxLen ∧ ∀ x ∈ l, wf x) := by
  intro H enc w base spare held fuel cs x hx
  rcases Deep.open_slice ht hx with ⟨rfl, _⟩ | ⟨a, len, cap, m, n, D, Pl, rfl, _, hl, hm, hmm, _, hel⟩
  · exact ⟨[], ⟨none, 0, rfl, Nat.le_refl _, Kd.C_nil _ _⟩, Nat.zero_le _, fun x hx => by cases hx⟩
  · have hlm : len ≤ m := by rw [hmm]; split <;> omega
    have hone : ∀ i, i < len → ∃ y : α, wf y ∧ ∃ c, c.length = d.sz ∧ d.K w y c ∧ ∀ j u, c[j]? = some u → w.cell? ((a.add (i * d.sz)).add j) = some u := by
      intro i hi
      obtain ⟨cs', hc, ht'⟩ := hel i (by omega)
      obtain ⟨y, hK, hw⟩ := h H enc w base spare held n cs' _ ht'
      rw [hsz] at hc
      obtain ⟨hlen, hcell⟩ := cells_cell hc
      exact ⟨y, hw, cs', hlen, hK, hcell⟩
    let f : Nat → Option α := fun i => if hi : i < len then some (Classical.choose (hone i hi)) else none
    have hf : ∀ i (hi : i < len), f i = some (Classical.choose (hone i hi)) := fun i hi => dif_pos hi
    let l : List α := (List.range len).filterMap f
    have hln : ∀ m, m ≤ len → ((List.range m).filterMap f).length = m ∧ ∀ i (hi : i < len), i < m → ((List.range m).filterMap f)[i]? = some (Classical.choose (hone i hi)) := by
      intro m
      induction m with
      | zero => exact fun _ => ⟨rfl, fun i _ h0 => absurd h0 (Nat.not_lt_zero _)⟩
      | succ m ih =>
        intro hm'
        obtain ⟨h1, h2⟩ := ih (by omega)
        rw [List.range_succ, List.filterMap_append]
        have he : [m].filterMap f = [Classical.choose (hone m (by omega))] := by simp [hf m (by omega)]
        rw [he]
        refine ⟨by simp [h1], fun i hi him => ?_⟩
        rcases Nat.lt_succ_iff_lt_or_eq.1 him with hlt | rfl
        · rw [List.getElem?_append_left (by omega)]
          exact h2 i hi hlt
        · rw [List.getElem?_append_right (by omega), h1]
          simp
    obtain ⟨hlen, hget⟩ := hln len (Nat.le_refl _)
    have hmax : cap ≤ 9223372036854775807 := by unfold maxLen at hm; omega
    refine ⟨l, ⟨some a, cap, ?_, ?_, ?_⟩, ?_, ?_⟩
    · show [Value.slice (some a) len cap] = _
      rw [hlen]
    · rw [hlen]; exact hl
    · refine ⟨rfl, by rw [hlen]; omega, fun _ => ⟨a, rfl, fun j p hp => ?_⟩⟩
      have hj : j < len := by rw [← hlen]; exact (List.getElem?_eq_some_iff.1 hp).1
      rw [hget j hj hj] at hp
      obtain rfl := Option.some.inj hp
      obtain ⟨_, c, hc1, hc2, hc3⟩ := Classical.choose_spec (hone j hj)
      exact ⟨c, hc1, hc2, fun i u hu => by rw [← Deep.add_add]; exact hc3 i u hu⟩
    · rw [hlen]; omega
    · intro x hx
      obtain ⟨j, hj⟩ := List.getElem?_of_mem hx
      have hj' : j < len := by rw [← hlen]; exact (List.getElem?_eq_some_iff.1 hj).1
      rw [hget j hj' hj'] at hj
      obtain rfl := Option.some.inj hj
      exact (Classical.choose_spec (hone j hj')).1
def OpensF {α : Type} (P : Program) (fs : List Field) (off : Nat) (d : Kd α) (wf : α → Prop) : Prop :=
  ∀ (H : Type) (enc : TypeId × Value → H) (w : World) (base : Nat) (spare : Nat → Bool) (held : Bool) (n : Nat) (cs : List Value), cs.length = off + d.sz →
    (∀ f ∈ fs, ∃ y, DataW.trod enc P w base spare held n f.type ((cs.drop f.offset).take (P.cellsOf f.type)) = some y) → ∃ y, d.K w y (cs.drop off) ∧ wf y
theorem opensF_one {α : Type} {f : Field} {d : Kd α} {wf : α → Prop} (hsz : P.cellsOf f.type = d.sz) (h : Opens P f.type d wf) : OpensF P [f] f.offset d wf := by
  intro H enc w base spare held n cs hl hf
  obtain ⟨y, hy⟩ := hf f (List.mem_singleton.2 rfl)
  rw [List.take_of_length_le (by rw [List.length_drop, hl, hsz]; omega)] at hy
  exact h H enc w base spare held n _ _ hy
theorem opensF_cons {α β : Type} {f : Field} {fs : List Field} {d : Kd α} {d' : Kd β} {wf : α → Prop} {wf' : β → Prop} (hsz : P.cellsOf f.type = d.sz) (h : Opens P f.type d wf) (h' : OpensF P fs (f.offset + d.sz) d' wf') :
    OpensF P (f :: fs) f.offset (Kd.pair d d') (fun x => wf x.1 ∧ wf' x.2) := by
  intro H enc w base spare held n cs hl hf
  have hl' : cs.length = f.offset + (d.sz + d'.sz) := hl
  obtain ⟨y, hy⟩ := hf f (List.mem_cons_self)
  rw [hsz] at hy
  obtain ⟨a, hK, hw⟩ := h H enc w base spare held n _ _ hy
  obtain ⟨b, hK', hw'⟩ := h' H enc w base spare held n cs (by rw [hl']; omega) (fun g hg => hf g (List.mem_cons_of_mem _ hg))
  refine ⟨(a, b), ⟨(cs.drop f.offset).take d.sz, cs.drop (f.offset + d.sz), ?_, hK, hK'⟩, hw, hw'⟩
  rw [← List.drop_drop, List.take_append_drop]
theorem opens_struct {α : Type} {fs : Array Field} {d : Kd α} {wf : α → Prop} (ht : P.underlying t = some (.struct fs)) (hsz : P.cellsOf t = d.sz) (h : OpensF P fs.toList 0 d wf) : Opens P t d wf := by
  intro H enc w base spare held fuel cs x hx
  obtain ⟨xs, n, _, _, hl, hlen, hf⟩ := DataW.trod_struct ht hx
  obtain ⟨y, hK, hw⟩ := h H enc w base spare held n cs (by rw [hl, hsz]; omega) (fun f hm => by
    obtain ⟨i, hi⟩ := List.getElem?_of_mem hm
    have hi' : fs[i]? = some f := by simpa using hi
    have hlt : i < xs.length := by rw [hlen]; exact (Array.getElem?_eq_some_iff.1 hi').1
    exact ⟨xs[i], by rw [hf i f hi', List.getElem?_eq_getElem hlt]⟩)
  exact ⟨y, by simpa using hK, hw⟩
theorem opens_iso {α β : Type} {d : Kd α} {wf : α → Prop} (f : β → α) (g : α → β) (hfg : ∀ a, f (g a) = a) (h : Opens P t d wf) : Opens P t (Kd.iso d f) (fun b => wf (f b)) := by
  intro H enc w base spare held fuel cs x hx
  obtain ⟨y, hK, hw⟩ := h H enc w base spare held fuel cs x hx
  exact ⟨g y, by show d.K w (f (g y)) cs; rw [hfg]; exact hK, by show wf (f (g y)); rw [hfg]; exact hw⟩
theorem arg_struct {α : Type} {fs : Array Field} {d : Kd α} {wf : α → Prop} {r : Reach} {W : World} {b0 : Nat} {v : Value} (ht : P.underlying t = some (.struct fs)) (ho : Opens P t d wf) (hv : Value.okWide P W r b0 t v)
    {H : Type} {enc : TypeId × Value → H} {base : Nat} {spare : Nat → Bool} {held : Bool} {dd : DataW H} {ps : List MemPlace} (h : DataW.Trod enc P W base spare held t v dd ps) :
    ∃ (x : α) (cs : List Value), v = .agg cs.toArray ∧ d.K W x cs ∧ wf x := by
  obtain ⟨cs, rfl, _⟩ := okWide_struct ht hv
  obtain ⟨fuel, hf⟩ := h
  obtain ⟨x, hK, hw⟩ := ho H enc W base spare held fuel _ _ hf
  exact ⟨x, cs.toList, by simp, by simpa [Value.cells] using hK, hw⟩
end
end Go.Proofs.YtfdhnmijaobbdaaW.PrintMore
namespace Go.Proofs.YtfdhnmijaobbdaaW.PrintMore
open Go.RowKit Go.ChangeShapes Go.WideShapes
end Go.Proofs.YtfdhnmijaobbdaaW.PrintMore
end
section
namespace Go.Proofs.Ytfdhnmijaobbdaa.S
open Go.RowKit Go.Proofs.YtfdhnmijaobbdaaW.PrintWords Go.Proofs.YtfdhnmijaobbdaaW.PrintLast Go.Proofs.YtfdhnmijaobbdaaW.PrintMore
set_option linter.unusedVariables false
def wf60 (x : S60) : Prop := (Lit.int .i64 x.f0).wf = true ∧ (Lit.int .i64 x.f1).wf = true
theorem opens60 : Opens Try.prog 60 k60 wf60 := opens_iso (fun x : S60 => (x.f0, x.f1)) (fun p => ⟨p.1, p.2⟩) (fun _ => rfl) (opens_struct Try.underlying60 (by kernel_rfl) (opensF_cons (by kernel_rfl) (opens_int Try.underlying3) (opensF_one (by kernel_rfl) (opens_int Try.underlying3))))
def wf25 (x : S25) : Prop := (x.f0.length ≤ maxLen ∧ ∀ z_ ∈ x.f0, wf60 z_)
theorem opens25 : Opens Try.prog 25 k25 wf25 := opens_iso (fun x : S25 => (x.f0)) (fun p => ⟨p⟩) (fun _ => rfl) (opens_struct Try.underlying25 (by kernel_rfl) (opensF_one (by kernel_rfl) (opens_slice Try.underlying23 (by kernel_rfl) opens60)))
def wf27 (x : S27) : Prop := (Lit.int .i64 x.f0).wf = true ∧ wf25 x.f1
theorem opens27 : Opens Try.prog 27 k27 wf27 := opens_iso (fun x : S27 => (x.f0, x.f1)) (fun p => ⟨p.1, p.2⟩) (fun _ => rfl) (opens_struct Try.underlying27 (by kernel_rfl) (opensF_cons (by kernel_rfl) (opens_int Try.underlying3) (opensF_one (by kernel_rfl) opens25)))
def wf64 (x : S64) : Prop := (Lit.int .i64 x.f0).wf = true ∧ wf60 x.f1
theorem opens64 : Opens Try.prog 64 k64 wf64 := opens_iso (fun x : S64 => (x.f0, x.f1)) (fun p => ⟨p.1, p.2⟩) (fun _ => rfl) (opens_struct Try.underlying64 (by kernel_rfl) (opensF_cons (by kernel_rfl) (opens_int Try.underlying3) (opensF_one (by kernel_rfl) opens60)))
def wf32 (x : S32) : Prop := (Lit.int .i64 x.f0).wf = true ∧ (Lit.int .i64 x.f1).wf = true ∧ (Lit.int .i64 x.f2).wf = true ∧ (Lit.int .i64 x.f3).wf = true ∧ wf25 x.f4 ∧ (x.f5.length ≤ maxLen ∧ ∀ z_ ∈ x.f5, wf64 z_)
theorem opens32 : Opens Try.prog 32 k32 wf32 := opens_iso (fun x : S32 => (x.f0, x.f1, x.f2, x.f3, x.f4, x.f5)) (fun p => ⟨p.1, p.2.1, p.2.2.1, p.2.2.2.1, p.2.2.2.2.1, p.2.2.2.2.2⟩) (fun _ => rfl) (opens_struct Try.underlying32 (by kernel_rfl) (opensF_cons (by kernel_rfl) (opens_int Try.underlying3) (opensF_cons (by kernel_rfl) (opens_int Try.underlying3) (opensF_cons (by kernel_rfl) (opens_int Try.underlying3) (opensF_cons (by kernel_rfl) (opens_int Try.underlying3) (opensF_cons (by kernel_rfl) opens25 (opensF_one (by kernel_rfl) (opens_slice Try.underlying30 (by kernel_rfl) opens64))))))))
end Go.Proofs.Ytfdhnmijaobbdaa.S
end
section
namespace Go.Proofs.Ytfdhnmijaobbdaa.S
open Go.RowKit Go.Proofs.YtfdhnmijaobbdaaW.PrintWords Go.Proofs.YtfdhnmijaobbdaaW.PrintLast Go.Proofs.YtfdhnmijaobbdaaW.PrintMore
theorem wrap_succ {i : Nat} (h : i < 9223372036854775807) : wrap64 ((i : Int) + 1) = ((i + 1 : Nat) : Int) := by
  unfold wrap64; omega
theorem drop_cons {α : Type} {l s : List α} {x : α} {i : Nat} (h : l.drop i = x :: s) : i < l.length ∧ l[i]? = some x ∧ l.drop (i + 1) = s := by
  have h1 : i < l.length := by
    rcases Nat.lt_or_ge i l.length with h1 | h1
    · exact h1
    · rw [List.drop_eq_nil_of_le h1] at h; cases h
  refine ⟨h1, ?_, ?_⟩
  · rw [List.drop_eq_getElem_cons h1] at h
    injection h with h _
    rw [List.getElem?_eq_getElem h1, h]
  · rw [List.drop_eq_getElem_cons h1] at h
    injection h
theorem drop_nil {α : Type} {l : List α} {i : Nat} (h : l.drop i = []) : l.length ≤ i := by
  rcases Nat.lt_or_ge i l.length with h1 | h1
  · rw [List.drop_eq_getElem_cons h1] at h; cases h
  · exact h1
theorem rd64 {l : List S64} {i : Nat} {x : S64} (h : l[i]? = some x) : rd_T64 l (i : Int) = x := by
  unfold rd_T64; rw [Int.toNat_natCast, List.getD_eq_getElem?_getD, h]; rfl
theorem succ_of {k n : Nat} (h : n < k) : ∃ m, k = m + 1 ∧ n ≤ m := ⟨k - 1, by omega, by omega⟩
def applyGo (n : Nat) (last : Int) : List S64 → List S60 → List S60 × Int
  | [], x => (x, 0)
  | m :: l, x => if m.f0 ≤ last ∨ m.f0 ≥ n then ([], 1) else applyGo n m.f0 l (x.set m.f0.toNat m.f1)
theorem apply_loop (w : List S60) (l : List S64) (hl : l.length ≤ 9223372036854775806) : ∀ (s : List S64) (i k : Nat) (last : Int) (x : List S60), l.drop i = s → -1 ≤ last → x.length = w.length → s.length < k →
    week_Apply.l0 k last l (l.length : Int) (i : Int) w x = some (applyGo w.length last s x) := by
  intro s
  induction s with
  | nil =>
    intro i k last x hs h0 hx hk
    obtain ⟨k, rfl, _⟩ := succ_of hk
    have := drop_nil hs
    simp only [week_Apply.l0]
    rw [if_neg (by omega)]
    rfl
  | cons y s ih =>
    intro i k last x hs h0 hx hk
    obtain ⟨k, rfl, hk'⟩ := succ_of hk
    obtain ⟨h1, h2, h3⟩ := drop_cons hs
    simp only [List.length_cons] at hk'
    simp only [week_Apply.l0]
    rw [if_pos (by omega), if_pos (by omega), if_pos (by omega), rd64 h2, wrap_succ (by omega)]
    simp only [applyGo]
    by_cases a : y.f0 ≤ last
    · rw [if_pos a, if_pos (.inl a)]
    · rw [if_neg a]
      by_cases b : y.f0 ≥ (w.length : Int)
      · rw [if_pos b, if_pos (.inr b)]
      · rw [if_neg b, if_pos (by omega), if_pos (by omega), if_neg (by omega)]
        exact ih (i + 1) k y.f0 _ h3 (by omega) (by rw [List.length_set]; exact hx) (by omega)
theorem apply_eq (w : List S60) (l : List S64) (hw : w.length < 8796093022208) (hl : l.length ≤ 9223372036854775806) (k : Nat) (hk : l.length < k) : week_Apply.f k w l = some (applyGo w.length (-1) l w) := by
  unfold week_Apply.f slices_Clone_api_Place_api_Place.f
  rw [if_pos hw]
  simp only [Option.bind_some]
  exact apply_loop w l hl l 0 k (-1) w rfl (by omega) rfl hk
theorem applyGo_len (n : Nat) : ∀ (l : List S64) (last : Int) (x : List S60), (applyGo n last l x).1.length ≤ x.length
  | [], _, _ => Nat.le_refl _
  | m :: l, last, x => by
    simp only [applyGo]
    split
    · simp
    · have := applyGo_len n l m.f0 (x.set m.f0.toNat m.f1)
      rwa [List.length_set] at this
abbrev TakT := Int × (List S60) × Int
def takeS (n0 : Int) (l1 : List S60) (m0 m2 m3 : Int) (l4 : List S60) (l5 : List S64) : TakT :=
  if (m0 = 1 ∨ m0 = 2) ∧ (0 ≤ n0 ∧ n0 ≤ 1099511627776) ∧ (1 ≤ m3 ∧ m3 ≤ 1099511627776) then
    if m3 ≤ n0 then (0, [], 341)
    else if m0 = 1 then (m3, l4, 0)
    else if m2 = n0 then (if (applyGo l1.length (-1) l5 l1).2 = 0 then (m3, (applyGo l1.length (-1) l5 l1).1, 0) else (0, [], (applyGo l1.length (-1) l5 l1).2))
    else (0, [], 350)
  else (0, [], 1)
theorem take_eq (k : Nat) (n0 : Int) (l1 : List S60) (m0 m1 m2 m3 : Int) (l4 : List S60) (l5 : List S64) (h1 : l1.length < 8796093022208) (h4 : l4.length < 8796093022208) (h5 : l5.length ≤ 9223372036854775806) (hk : l5.length < k) :
    feed_Take.f k n0 l1 m0 m1 m2 m3 l4 l5 = some (takeS n0 l1 m0 m2 m3 l4 l5) := by
  unfold feed_Take.f feed_Take.eff takeS
  rw [apply_eq l1 l5 h1 h5 k hk]
  simp only [slices_Clone_api_Place_api_Place.f, if_pos h4, Option.bind_some]
  generalize applyGo l1.length (-1) l5 l1 = z
  by_cases m : m0 = 1 ∨ m0 = 2
  · rw [if_pos m]
    by_cases a : 0 ≤ n0
    · rw [if_pos a]
      by_cases b : n0 ≤ 1099511627776
      · rw [if_pos b]
        by_cases c : 1 ≤ m3
        · rw [if_pos c]
          by_cases d : m3 ≤ 1099511627776
          · rw [if_pos d, if_pos (show (m0 = 1 ∨ m0 = 2) ∧ (0 ≤ n0 ∧ n0 ≤ 1099511627776) ∧ (1 ≤ m3 ∧ m3 ≤ 1099511627776) from ⟨m, ⟨a, b⟩, c, d⟩)]
            by_cases f : m3 ≤ n0
            · rw [if_pos f, if_pos f]
            · rw [if_neg f, if_neg f]
              by_cases g : m0 = 1
              · simp [g]
              · by_cases o : m2 = n0
                · by_cases hz : z.2 = 0
                  · simp [g, o, hz]
                  · simp [g, o, hz]
                · simp [g, o]
          · rw [if_neg d, if_neg (fun z => d z.2.2.2)]
        · rw [if_neg c, if_neg (fun z => c z.2.2.1)]
      · rw [if_neg b, if_neg (fun z => b z.2.1.2)]
    · rw [if_neg a, if_neg (fun z => a z.2.1.1)]
  · rw [if_neg m, if_neg (fun z => m z.1)]
theorem takeS_len (n0 : Int) (l1 : List S60) (m0 m2 m3 : Int) (l4 : List S60) (l5 : List S64) : (takeS n0 l1 m0 m2 m3 l4 l5).2.1.length ≤ max l1.length l4.length := by
  have hlen := applyGo_len l1.length l5 (-1) l1
  unfold takeS
  repeat' split
  all_goals first | (simp; done) | (simp; omega)
theorem takeS_good {n0 : Int} {l1 : List S60} {m0 m2 m3 : Int} {l4 : List S60} {l5 : List S64} (h : (takeS n0 l1 m0 m2 m3 l4 l5).2.2 = 0) :
    (m0 = 1 ∨ m0 = 2) ∧ (0 ≤ n0 ∧ n0 ≤ 1099511627776) ∧ (1 ≤ m3 ∧ m3 ≤ 1099511627776) ∧ n0 < m3 ∧ (takeS n0 l1 m0 m2 m3 l4 l5).1 = m3 := by
  unfold takeS at h ⊢
  by_cases a : (m0 = 1 ∨ m0 = 2) ∧ (0 ≤ n0 ∧ n0 ≤ 1099511627776) ∧ (1 ≤ m3 ∧ m3 ≤ 1099511627776)
  · rw [if_pos a] at h ⊢
    refine ⟨a.1, a.2.1, a.2.2, ?_⟩
    by_cases b : m3 ≤ n0
    · rw [if_pos b] at h; simp at h
    · rw [if_neg b] at h ⊢
      refine ⟨by omega, ?_⟩
      by_cases c : m0 = 1
      · rw [if_pos c]
      · rw [if_neg c] at h ⊢
        by_cases d : m2 = n0
        · rw [if_pos d] at h ⊢
          by_cases e : (applyGo l1.length (-1) l5 l1).2 = 0
          · rw [if_pos e]
          · rw [if_neg e] at h; exact absurd h e
        · rw [if_neg d] at h; simp at h
  · rw [if_neg a] at h; simp at h
theorem takeS_bad {n0 : Int} {l1 : List S60} {m0 m2 m3 : Int} {l4 : List S60} {l5 : List S64} (h : ¬ (takeS n0 l1 m0 m2 m3 l4 l5).2.2 = 0) : (takeS n0 l1 m0 m2 m3 l4 l5).1 = 0 ∧ (takeS n0 l1 m0 m2 m3 l4 l5).2.1 = [] := by
  unfold takeS at h ⊢
  repeat' split
  all_goals simp_all
end Go.Proofs.Ytfdhnmijaobbdaa.S
end
section
namespace Go.Proofs.Ytfdhnmijaobbdaa.Pure
open Go.RowKit Go.Proofs.YtfdhnmijaobbdaaW.PrintWords Go.Proofs.YtfdhnmijaobbdaaW.PrintLast Go.Proofs.YtfdhnmijaobbdaaW.PrintMore Go.Proofs.Ytfdhnmijaobbdaa.S
theorem FeedRepeated : ∀ (x0 : S27) (x1 : S32), wf27 x0 → wf32 x1 → ∃ k, chalklinelaw35_FeedRepeated.f k x0.f0 x0.f1.f0 x1.f0 x1.f1 x1.f2 x1.f3 x1.f4.f0 x1.f5 = some true := by
  intro x0 x1 _ _
  refine ⟨x1.f5.length + 400, ?_⟩
  unfold chalklinelaw35_FeedRepeated.f
  simp only [chalklinelaw35_live.f, Option.bind_some, if_true]
  rw [show x1.f5.length + 400 = (x1.f5.length + 399) + 1 from rfl]
  by_cases h : (x0.f1.f0.length : Int) > 70
  · rw [if_pos h]; rfl
  · rw [if_neg h]
    unfold chalklinelaw35_fewMsg.f
    by_cases h4 : (x1.f4.f0.length : Int) ≤ 70
    · rw [if_pos h4]
      simp only [Option.bind_some]
      by_cases h5 : (x1.f5.length : Int) ≤ 70
      · rw [decide_eq_true h5]
        simp only [chalklinelaw35_FeedRepeated.j0]
        rw [if_neg (by decide), take_eq _ x0.f0 x0.f1.f0 x1.f0 x1.f1 x1.f2 x1.f3 x1.f4.f0 x1.f5 (by omega) (by omega) (by omega) (by omega)]
        simp only [Option.bind_some]
        have hl := takeS_len x0.f0 x0.f1.f0 x1.f0 x1.f2 x1.f3 x1.f4.f0 x1.f5
        by_cases hz : (takeS x0.f0 x0.f1.f0 x1.f0 x1.f2 x1.f3 x1.f4.f0 x1.f5).2.2 = 0
        · obtain ⟨g0, g1, g2, g3, g4⟩ := takeS_good hz
          rw [if_pos hz, take_eq _ _ _ x1.f0 x1.f1 x1.f2 x1.f3 x1.f4.f0 x1.f5 (by omega) (by omega) (by omega) (by omega)]
          rw [g4]
          have h2 : takeS x1.f3 (takeS x0.f0 x0.f1.f0 x1.f0 x1.f2 x1.f3 x1.f4.f0 x1.f5).2.1 x1.f0 x1.f2 x1.f3 x1.f4.f0 x1.f5 = (0, [], 341) := by
            unfold takeS
            rw [if_pos ⟨g0, ⟨by omega, by omega⟩, g2⟩, if_pos (Int.le_refl _)]
          rw [h2]
          simp
          exact g3
        · obtain ⟨b0, b1⟩ := takeS_bad hz
          rw [if_neg hz, b0, b1]
          rfl
      · rw [decide_eq_false h5]; rfl
    · rw [if_neg h4]; rfl
end Go.Proofs.Ytfdhnmijaobbdaa.Pure
end
section
namespace Go.Proofs.Ytfdhnmijaobbdaa.feedRepeated
open Go.ChangeShapes Go.WideShapes Go.ChangeAt Go.RowKit Go.Proofs.YtfdhnmijaobbdaaW.PrintWords Go.Proofs.YtfdhnmijaobbdaaW.PrintLast Go.Proofs.YtfdhnmijaobbdaaW.PrintMore Go.Proofs.Ytfdhnmijaobbdaa.S
open Go.ChangeMaps (open_string shut_string)
set_option linter.unusedVariables false
theorem own : ownKnob Try.prog.godebug = none := by kernel_rfl
theorem laidOut : laidOutB Try.prog = true := by kernel_rfl
set_option maxRecDepth 100000 in
theorem lifted (os : Os) (started : os.Started) (H : Type) (enc : TypeId × Value → H) :
    ReturnsInHanded {} Try.checked os 7 .any (Rows.feedRepeatedSpec.pre6 enc Try.prog Try.f7 Rows.feedRepeatedRow.domain false) (Rows.feedRepeatedSpec.post enc Try.prog Try.f7 false true false false) := by
  refine returnsInHanded_of_change_sized (C := Try.checked) own started (by kernel_rfl) Try.func7
    (ChangeSpec.witness6 (enc := enc) (C := Try.checked) false ⟨#[], #[.agg #[.int .i64 0, .slice none 0 0], .agg #[.int .i64 0, .int .i64 0, .int .i64 0, .int .i64 0, .slice none 0 0, .slice none 0 0]], []⟩ 8 (by kernel_rfl) (by kernel_rfl) (by kernel_rfl) (by kernel_rfl)) ?_
  intro W base args ds gs before hval0 hW hcnd hsz0 _
  have hsz : (DataW.weightsEach Try.prog (Try.f7.params.toList ++ Rows.feedRepeatedSpec.plain.varTypes Try.prog) (ds ++ gs)).all (· ≤ reachBytes) = true := hsz0
  have hval : ∀ (j : Nat) t v, Try.f7.params[j]? = some t → args[j]? = some v → Value.okWide Try.prog W .any base t v := hval0
  have hW' := hW
  obtain ⟨p, q, hA0, hV, rfl, hfz, hnd⟩ := hW
  have hA : DataW.TrodAll enc Try.prog W 0 (fun _ => true) true Try.f7.params.toList args.toList ds p := hA0
  rw [Try.params7] at hA hval hsz
  obtain ⟨v0, vs0, d0, ds0, p0, q0, hargs, rfl, rfl, h0, r0⟩ := trodAll_cons hA
  obtain ⟨v1, vs1, d1, ds1, p1, q1, rfl, rfl, rfl, h1, r1⟩ := trodAll_cons r0
  obtain ⟨rfl, rfl, rfl⟩ := trodAll_nil r1
  obtain rfl : args = #[v0, v1] := by cases args; simp_all
  obtain ⟨rfl, rfl⟩ := trodVars_none hV
  have k0 := h0
  have lt0 : ∀ x ∈ p0, x.block < W.heap.size := by obtain ⟨m, hm⟩ := k0; exact DataW.trod_lt m _ _ _ hm
  obtain ⟨x0, cs0, rfl, hK0, w0⟩ := arg_struct Try.underlying27 opens27 (hval 0 27 v0 rfl rfl) h0
  obtain ⟨A0_1, c0_1, rfl, hc0_1, hr0_1⟩ := k27_open hK0
  have k1 := h1
  have lt1 : ∀ x ∈ p1, x.block < W.heap.size := by obtain ⟨m, hm⟩ := k1; exact DataW.trod_lt m _ _ _ hm
  obtain ⟨x1, cs1, rfl, hK1, w1⟩ := arg_struct Try.underlying32 opens32 (hval 1 32 v1 rfl rfl) h1
  obtain ⟨A1_4, c1_4, A1_5, c1_5, rfl, hc1_4, hr1_4, hc1_5, hr1_5⟩ := k32_open hK1
  clear hA0 hval0 hsz0 hsz
  obtain ⟨k, hp⟩ := Pure.FeedRepeated x0 x1 w0 w1
  refine (chalklinelaw35_FeedRepeated.calls k x0.f0 _ _ x0.f1.f0 x1.f0 x1.f1 x1.f2 x1.f3 _ _ x1.f4.f0 _ _ x1.f5 true W hr0_1 hc0_1 hr1_4 hc1_4 hr1_5 hc1_5 hp).mono fun e W' ⟨he, bel⟩ => ?_
  subst he
  exact ⟨_, rfl, _, _, _, [], _, [], hW', trodAll_mk1 (shut_bool Try.underlying4 _), (trodAll_cons_mk (Below.trod laidOut (by kernel_rfl) (of_decide_eq_true (by kernel_rfl)) k0 bel lt0) (trodAll_cons_mk (Below.trod laidOut (by kernel_rfl) (of_decide_eq_true (by kernel_rfl)) k1 bel lt1) trodAll_mk0)), rfl, bel.frame _, fun h => by cases h⟩
theorem over : Rows.feedRepeatedRow.holds Try.pinned (OpenSpec.ofChange Rows.feedRepeatedSpec) :=
  OpenClaim.holds_of_wide 7 Try.f7 rfl rfl rfl rfl rfl rfl rfl ⟨rfl, rfl, rfl, rfl, rfl⟩ rfl rfl rfl rfl rfl (by kernel_rfl) Try.func7 (by kernel_rfl)
    (of_decide_eq_true (by kernel_rfl)) (by unfold Func.isWrapper; first | (rw [if_pos (by decide +kernel)]; kernel_rfl) | (rw [if_neg (by decide +kernel)]; exact ⟨rfl, rfl⟩))
    (fun os started H enc _ => lifted os started H enc)
theorem proved : Rows.FeedRepeatedSaid := over
#print axioms proved
end Go.Proofs.Ytfdhnmijaobbdaa.feedRepeated
namespace Go.Proofs.Ytfdhnmijaobbdaa
theorem feedRepeated_holds : Rows.FeedRepeatedSaid := feedRepeated.proved
end Go.Proofs.Ytfdhnmijaobbdaa
end
