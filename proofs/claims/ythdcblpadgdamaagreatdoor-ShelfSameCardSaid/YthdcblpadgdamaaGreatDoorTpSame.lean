/- Own work: the document's 'same' is equality. -/
import Derived.Test.YthdcblpadgdamaaGreatDoorTpLay
set_option linter.all false
namespace Go.Trw
def sameI {α : Type} (a b : List α) (i : Int) : Prop := a.take i.toNat = b.take i.toNat
theorem sameI.zero {α : Type} {a b : List α} : sameI a b 0 := rfl
theorem sameI.step {α : Type} [Inhabited α] {a b : List α} {i : Int} (h : sameI a b i) (h0 : 0 ≤ i) (h1 : i < (a.length : Int)) (h2 : i < (b.length : Int)) (hp : nth a i = nth b i) : sameI a b (i + 1) := by
  unfold sameI nth at *
  rw [show (i + 1).toNat = i.toNat + 1 by omega, List.take_add_one, List.take_add_one, h]
  rw [List.getD_eq_getElem?_getD, List.getD_eq_getElem?_getD, List.getElem?_eq_getElem (by omega), List.getElem?_eq_getElem (by omega)] at hp
  rw [List.getElem?_eq_getElem (by omega), List.getElem?_eq_getElem (by omega)]
  simp at hp
  rw [hp]
theorem sameI.all {α : Type} {a b : List α} {i : Int} (h : sameI a b i) (h1 : (a.length : Int) ≤ i) (h2 : (b.length : Int) ≤ i) : a = b := by
  unfold sameI at h
  rwa [List.take_of_length_le (by omega), List.take_of_length_le (by omega)] at h
end Go.Trw
namespace Go.Proofs
open Go Go.Trw
theorem same02 {a b : List Str} (h : a.length ≤ 16777216) : Tot (trystref02_Same a b) (fun r => r = true ↔ a = b) := by
  unfold trystref02_Same
  repeat' first
    | dsimp only
    | refine Tot.gd ?_ (fun _ => ?_)
    | refine Tot.ite (fun _ => ?_) (fun _ => ?_)
    | refine Tot.next ?_ ?_
    | refine Tot.brk ?_
    | refine Tot.ret ?_
    | refine Tot.bind ?_
  · grind
  refine Tot.loop (fun i => 0 ≤ i ∧ i ≤ (a.length : Int) ∧ sameI a b i) (fun i => (a.length - i).toNat) ⟨by omega, by omega, sameI.zero⟩ ?_
  rintro i hI
  repeat' first
    | dsimp only
    | refine Tot.gd ?_ (fun _ => ?_)
    | refine Tot.ite (fun _ => ?_) (fun _ => ?_)
    | refine Tot.next ?_ ?_
    | refine Tot.brk ?_
    | refine Tot.ret ?_
    | refine Tot.bind ?_
  all_goals grind [okL, okS, wrap64, sameI.step, sameI.all]
theorem same13 {a b : List api_Last} (h : a.length ≤ 16777216) : Tot (trystref13_Same a b) (fun r => r = true ↔ a = b) := by
  unfold trystref13_Same
  repeat' first
    | dsimp only
    | refine Tot.gd ?_ (fun _ => ?_)
    | refine Tot.ite (fun _ => ?_) (fun _ => ?_)
    | refine Tot.next ?_ ?_
    | refine Tot.brk ?_
    | refine Tot.ret ?_
    | refine Tot.bind ?_
  · grind
  refine Tot.loop (fun i => 0 ≤ i ∧ i ≤ (a.length : Int) ∧ sameI a b i) (fun i => (a.length - i).toNat) ⟨by omega, by omega, sameI.zero⟩ ?_
  rintro i hI
  repeat' first
    | dsimp only
    | refine Tot.gd ?_ (fun _ => ?_)
    | refine Tot.ite (fun _ => ?_) (fun _ => ?_)
    | refine Tot.next ?_ ?_
    | refine Tot.brk ?_
    | refine Tot.ret ?_
    | refine Tot.bind ?_
  all_goals grind [okL, okS, wrap64, sameI.step, sameI.all]
theorem same11 {a b : List Int} (h : a.length ≤ 16777216) : Tot (trystref11_Ids a b) (fun r => r = true ↔ a = b) := by
  unfold trystref11_Ids
  repeat' first
    | dsimp only
    | refine Tot.gd ?_ (fun _ => ?_)
    | refine Tot.ite (fun _ => ?_) (fun _ => ?_)
    | refine Tot.next ?_ ?_
    | refine Tot.brk ?_
    | refine Tot.ret ?_
    | refine Tot.bind ?_
  · grind
  refine Tot.loop (fun i => 0 ≤ i ∧ i ≤ (a.length : Int) ∧ sameI a b i) (fun i => (a.length - i).toNat) ⟨by omega, by omega, sameI.zero⟩ ?_
  rintro i hI
  repeat' first
    | dsimp only
    | refine Tot.gd ?_ (fun _ => ?_)
    | refine Tot.ite (fun _ => ?_) (fun _ => ?_)
    | refine Tot.next ?_ ?_
    | refine Tot.brk ?_
    | refine Tot.ret ?_
    | refine Tot.bind ?_
  all_goals grind [okL, okS, wrap64, sameI.step, sameI.all]
theorem sameOffs {a b : List api_Off} (h : a.length ≤ 16777216) : Tot (trystref14_SameOffs a b) (fun r => r = true ↔ a = b) := by
  unfold trystref14_SameOffs
  repeat' first
    | dsimp only
    | refine Tot.gd ?_ (fun _ => ?_)
    | refine Tot.ite (fun _ => ?_) (fun _ => ?_)
    | refine Tot.next ?_ ?_
    | refine Tot.brk ?_
    | refine Tot.ret ?_
    | refine Tot.bind ?_
  · grind
  refine Tot.loop (fun i => 0 ≤ i ∧ i ≤ (a.length : Int) ∧ sameI a b i) (fun i => (a.length - i).toNat) ⟨by omega, by omega, sameI.zero⟩ ?_
  rintro i hI
  repeat' first
    | dsimp only
    | refine Tot.gd ?_ (fun _ => ?_)
    | refine Tot.ite (fun _ => ?_) (fun _ => ?_)
    | refine Tot.next ?_ ?_
    | refine Tot.brk ?_
    | refine Tot.ret ?_
    | refine Tot.bind ?_
  all_goals grind [okL, okS, wrap64, sameI.step, sameI.all]
theorem same09 {a b : List api_Kept} (h : a.length ≤ 16777216) : Tot (trystref09_Same a b) (fun r => r = true ↔ a = b) := by
  unfold trystref09_Same
  repeat' first
    | dsimp only
    | refine Tot.gd ?_ (fun _ => ?_)
    | refine Tot.ite (fun _ => ?_) (fun _ => ?_)
    | refine Tot.next ?_ ?_
    | refine Tot.brk ?_
    | refine Tot.ret ?_
    | refine Tot.bind ?_
  · grind
  refine Tot.loop (fun i => 0 ≤ i ∧ i ≤ (a.length : Int) ∧ sameI a b i) (fun i => (a.length - i).toNat) ⟨by omega, by omega, sameI.zero⟩ ?_
  rintro i hI
  repeat' first
    | dsimp only
    | refine Tot.gd ?_ (fun _ => ?_)
    | refine Tot.ite (fun _ => ?_) (fun _ => ?_)
    | refine Tot.next ?_ ?_
    | refine Tot.brk ?_
    | refine Tot.ret ?_
    | refine Tot.bind ?_
  all_goals grind [okL, okS, wrap64, sameI.step, sameI.all]
theorem topic_ext (a b : api_Topic) : a = b ↔ a.Name = b.Name ∧ a.First = b.First ∧ a.Log = b.Log := by
  cases a; cases b; simp
theorem same12 {N : Nat} {a b : List api_Topic} (h : okL N (ok_Topic N) a) (hN : N ≤ 16777216) : Tot (trystref12_Same a b) (fun r => r = true ↔ a = b) := by
  have hl := Nat.le_trans h.1 hN
  unfold trystref12_Same
  repeat' first
    | dsimp only
    | refine Tot.gd ?_ (fun _ => ?_)
    | refine Tot.ite (fun _ => ?_) (fun _ => ?_)
    | refine Tot.next ?_ ?_
    | refine Tot.brk ?_
    | refine Tot.ret ?_
    | refine Tot.bind ?_
  · grind
  refine Tot.loop (fun i => 0 ≤ i ∧ i ≤ (a.length : Int) ∧ sameI a b i) (fun i => (a.length - i).toNat) ⟨by omega, by omega, sameI.zero⟩ ?_
  rintro i ⟨h0, h1, h2⟩
  have hx := topic_ext (nth a i) (nth b i)
  have hlog : i < (a.length : Int) → (nth a i).Log.length ≤ 16777216 := fun hi => Nat.le_trans (h.nth h0 hi).log.1 hN
  repeat' first
    | dsimp only
    | refine (same02 (hlog (by grind))).mono (fun _ _ => ?_)
    | refine Tot.gd ?_ (fun _ => ?_)
    | refine Tot.ite (fun _ => ?_) (fun _ => ?_)
    | refine Tot.next ?_ ?_
    | refine Tot.brk ?_
    | refine Tot.ret ?_
    | refine Tot.bind ?_
  all_goals grind [okL, okS, wrap64, sameI.step, sameI.all]
theorem out_ext (a b : api_Out) : a = b ↔ a.Id = b.Id ∧ a.Sub = b.Sub ∧ a.Ids = b.Ids ∧ a.Tries = b.Tries ∧ a.Due = b.Due := by
  cases a; cases b; simp
theorem same15One {a b : api_Out} (h : a.Ids.length ≤ 16777216) : Tot (trystref15_SameOne a b) (fun r => r = true ↔ a = b) := by
  unfold trystref15_SameOne
  have hx := out_ext a b
  repeat' first
    | dsimp only
    | refine (same11 h).mono (fun _ _ => ?_)
    | refine Tot.gd ?_ (fun _ => ?_)
    | refine Tot.ite (fun _ => ?_) (fun _ => ?_)
    | refine Tot.next ?_ ?_
    | refine Tot.brk ?_
    | refine Tot.ret ?_
    | refine Tot.bind ?_
  all_goals grind
theorem same15 {N : Nat} {a b : List api_Out} (h : okL N (ok_Out N) a) (hN : N ≤ 16777216) : Tot (trystref15_Same a b) (fun r => r = true ↔ a = b) := by
  have hl := Nat.le_trans h.1 hN
  unfold trystref15_Same
  repeat' first
    | dsimp only
    | refine Tot.gd ?_ (fun _ => ?_)
    | refine Tot.ite (fun _ => ?_) (fun _ => ?_)
    | refine Tot.next ?_ ?_
    | refine Tot.brk ?_
    | refine Tot.ret ?_
    | refine Tot.bind ?_
  · grind
  refine Tot.loop (fun i => 0 ≤ i ∧ i ≤ (a.length : Int) ∧ sameI a b i) (fun i => (a.length - i).toNat) ⟨by omega, by omega, sameI.zero⟩ ?_
  rintro i ⟨h0, h1, h2⟩
  have hids : i < (a.length : Int) → (nth a i).Ids.length ≤ 16777216 := fun hi => Nat.le_trans (h.nth h0 hi).ids.1 hN
  repeat' first
    | dsimp only
    | refine (same15One (hids (by grind))).mono (fun _ _ => ?_)
    | refine Tot.gd ?_ (fun _ => ?_)
    | refine Tot.ite (fun _ => ?_) (fun _ => ?_)
    | refine Tot.next ?_ ?_
    | refine Tot.brk ?_
    | refine Tot.ret ?_
    | refine Tot.bind ?_
  all_goals grind [okL, okS, wrap64, sameI.step, sameI.all]
theorem inst_ext (a b : api_Inst) : a = b ↔ a.Key = b.Key ∧ a.L = b.L := by
  cases a; cases b; simp
theorem same10 {N : Nat} {a b : List api_Inst} (h : okL N (ok_Inst N) a) (hN : N ≤ 16777216) : Tot (trystref10_Same a b) (fun r => r = true ↔ a = b) := by
  have hl := Nat.le_trans h.1 hN
  unfold trystref10_Same
  repeat' first
    | dsimp only
    | refine Tot.gd ?_ (fun _ => ?_)
    | refine Tot.ite (fun _ => ?_) (fun _ => ?_)
    | refine Tot.next ?_ ?_
    | refine Tot.brk ?_
    | refine Tot.ret ?_
    | refine Tot.bind ?_
  · grind
  refine Tot.loop (fun i => 0 ≤ i ∧ i ≤ (a.length : Int) ∧ sameI a b i) (fun i => (a.length - i).toNat) ⟨by omega, by omega, sameI.zero⟩ ?_
  rintro i ⟨h0, h1, h2⟩
  have hx := inst_ext (nth a i) (nth b i)
  have hlog : i < (a.length : Int) → (nth a i).L.length ≤ 16777216 := fun hi => Nat.le_trans (h.nth h0 hi).l.1 hN
  repeat' first
    | dsimp only
    | refine (same09 (hlog (by grind))).mono (fun _ _ => ?_)
    | refine Tot.gd ?_ (fun _ => ?_)
    | refine Tot.ite (fun _ => ?_) (fun _ => ?_)
    | refine Tot.next ?_ ?_
    | refine Tot.brk ?_
    | refine Tot.ret ?_
    | refine Tot.bind ?_
  all_goals grind [okL, okS, wrap64, sameI.step, sameI.all]
/-- How deep a predicate is. -/
inductive Deep : Nat → api_Pred → Prop
  | mk {d o s v l} : (∀ x ∈ l, Deep d x) → Deep (d + 1) (.mk o s v l)
theorem Deep.of {d : Nat} {p : api_Pred} (h : PV d p) : Deep d p := by
  induction h with
  | not _ ih => exact .mk (by simpa using ih)
  | and _ _ h k => exact .mk (by intro x hx; simp at hx; rcases hx with rfl | rfl <;> assumption)
  | or _ _ h k => exact .mk (by intro x hx; simp at hx; rcases hx with rfl | rfl <;> assumption)
  | _ => exact .mk (by simp)
theorem pt_ext (a b : api_Pred) : a = b ↔ a.Op = b.Op ∧ a.S = b.S ∧ a.V = b.V ∧ a.L = b.L := by
  cases a; cases b; simp
theorem same05 {N : Nat} (hN : N ≤ 16777216) : ∀ {d n : Nat} {a b : api_Pred}, ok_Pred N a → Deep d a → d ≤ n → Tot (trystref05_Same n a b) (fun r => r = true ↔ a = b) := by
  intro d
  induction d with
  | zero => intro n a b ho hd; cases hd
  | succ d ih =>
    intro n a b ho hd hn
    obtain ⟨m, rfl⟩ : ∃ m, n = m + 1 := ⟨n - 1, by omega⟩
    have hdl : ∀ x ∈ a.L, Deep d x := by cases hd with | mk h => exact h
    obtain ⟨k1, k2, k3, k4⟩ := ho.get
    have hl := Nat.le_trans k4.1 hN
    have hx := pt_ext a b
    rw [trystref05_Same.eq_2]
    repeat' first
      | dsimp only
      | refine Tot.gd ?_ (fun _ => ?_)
      | refine Tot.ite (fun _ => ?_) (fun _ => ?_)
      | refine Tot.next ?_ ?_
      | refine Tot.brk ?_
      | refine Tot.ret ?_
      | refine Tot.bind ?_
    · grind
    refine Tot.loop (fun i => 0 ≤ i ∧ i ≤ (a.L.length : Int) ∧ sameI a.L b.L i) (fun i => (a.L.length - i).toNat) ⟨by omega, by omega, sameI.zero⟩ ?_
    rintro i ⟨h0, h1, h2⟩
    have hih : i < (a.L.length : Int) → Tot (trystref05_Same m (nth a.L i) (nth b.L i)) (fun r => r = true ↔ nth a.L i = nth b.L i) := fun hi => ih (k4.nth h0 hi) (hdl _ (nth_mem h0 hi)) (by omega)
    repeat' first
      | dsimp only
      | refine (hih (by grind)).mono (fun _ _ => ?_)
      | refine Tot.gd ?_ (fun _ => ?_)
      | refine Tot.ite (fun _ => ?_) (fun _ => ?_)
      | refine Tot.next ?_ ?_
      | refine Tot.brk ?_
      | refine Tot.ret ?_
      | refine Tot.bind ?_
    all_goals clear hih ih
    all_goals grind [okL, okS, wrap64, sameI.step, sameI.all]
theorem def_ext (a b : api_Def) : a = b ↔ a.Name = b.Name ∧ a.Globs = b.Globs ∧ a.Where = b.Where ∧ a.Key = b.Key ∧ a.J = b.J := by
  cases a; cases b; simp
theorem same14 {N : Nat} {a b : api_Def} (h : ok_Def N a) (hN : N ≤ 16777216) (hp : ∀ p ∈ a.Where, PM p) : Tot (trystref14_Same a b) (fun r => r = true ↔ a = b) := by
  have hx := def_ext a b
  have hg := Nat.le_trans h.globs.1 hN
  have hw := Nat.le_trans h.wher.1 hN
  unfold trystref14_Same
  repeat' first
    | dsimp only
    | refine (same02 hg).mono (fun _ _ => ?_)
    | refine Tot.gd ?_ (fun _ => ?_)
    | refine Tot.ite (fun _ => ?_) (fun _ => ?_)
    | refine Tot.next ?_ ?_
    | refine Tot.brk ?_
    | refine Tot.ret ?_
    | refine Tot.bind ?_
  any_goals grind
  all_goals
    refine Tot.loop (fun i => 0 ≤ i ∧ i ≤ (a.Where.length : Int) ∧ sameI a.Where b.Where i) (fun i => (a.Where.length - i).toNat) ⟨by omega, by omega, sameI.zero⟩ ?_
    rintro i ⟨h0, h1, h2⟩
    have hih : i < (a.Where.length : Int) → Tot (trystref05_Same FUEL (nth a.Where i) (nth b.Where i)) (fun r => r = true ↔ nth a.Where i = nth b.Where i) := fun hi => same05 hN (h.wher.nth h0 hi) (Deep.of (hp _ (nth_mem h0 hi)).pv) (by unfold FUEL; omega)
    repeat' first
      | dsimp only
      | refine (hih (by grind)).mono (fun _ _ => ?_)
      | refine Tot.gd ?_ (fun _ => ?_)
      | refine Tot.ite (fun _ => ?_) (fun _ => ?_)
      | refine Tot.next ?_ ?_
      | refine Tot.brk ?_
      | refine Tot.ret ?_
      | refine Tot.bind ?_
    all_goals clear hih
    all_goals grind [okL, okS, wrap64, sameI.step, sameI.all]
end Go.Proofs
