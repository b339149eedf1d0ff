/- Own work: what a data function answers, and that it answers. -/
import Derived.Test.YthdcblpadgdamaaGreatDoorTyD
set_option linter.all false
namespace Go.Trw
open Go
def Tot {α : Type} (x : Option α) (Q : α → Prop) : Prop := ∃ r, x = some r ∧ Q r
def LQ {S E : Type} (I : S → Prop) (m : S → Nat) (s : S) (Q : E → Prop) : S ⊕ E → Prop := Sum.elim (fun s' => I s' ∧ m s' < m s) Q
section
variable {α β S E : Type} {Q : α → Prop}
theorem Tot.ret {a : α} (h : Q a) : Tot (some a) Q := ⟨a, rfl, h⟩
theorem Tot.bind {x : Option β} {f : β → Option α} (h : Tot x fun a => Tot (f a) Q) : Tot (x.bind f) Q := by
  obtain ⟨r, rfl, h⟩ := h; exact h
theorem Tot.cut {x : Option β} {f : β → Option α} (P : β → Prop) (h : Tot x P) (k : ∀ a, P a → Tot (f a) Q) : Tot (x.bind f) Q := by
  obtain ⟨r, rfl, h⟩ := h; exact k r h
theorem Tot.gd {c : Prop} [Decidable c] {a : Option α} (h : c) (k : c → Tot a Q) : Tot (if c then a else none) Q := by rw [if_pos h]; exact k h
theorem Tot.ite {c : Prop} [Decidable c] {a b : Option α} (h1 : c → Tot a Q) (h2 : ¬ c → Tot b Q) : Tot (if c then a else b) Q := by
  split
  · rename_i h; exact h1 h
  · rename_i h; exact h2 h
theorem Tot.mono {x : Option α} {P : α → Prop} (h : Tot x P) (k : ∀ a, P a → Q a) : Tot x Q := by
  obtain ⟨r, e, h⟩ := h; exact ⟨r, e, k r h⟩
theorem Tot.self {x : Option α} (h : Tot x Q) : Tot x (fun a => x = some a ∧ Q a) := by
  obtain ⟨r, e, h⟩ := h; exact ⟨r, e, e, h⟩
theorem Tot.and {x : Option α} {P : α → Prop} (h : Tot x P) (k : Tot x Q) : Tot x (fun a => P a ∧ Q a) := by
  obtain ⟨r, rfl, h⟩ := h
  obtain ⟨r', e, k⟩ := k
  cases e; exact ⟨_, rfl, h, k⟩
theorem Tot.of {x : Option α} {r : α} (h : Tot x Q) (e : x = some r) : Q r := by obtain ⟨r', e', h⟩ := h; rw [e] at e'; cases e'; exact h
theorem Tot.of' {x : Option α} {r : α} (e : x = some r) (h : Q r) : Tot x Q := ⟨r, e, h⟩
theorem Tot.eq {x : Option α} {r : α} (h : Tot x (fun a => a = r)) : x = some r := by obtain ⟨_, e, rfl⟩ := h; exact e
theorem Tot.next {I : S → Prop} {m : S → Nat} {s s' : S} {Q : E → Prop} (h : I s') (k : m s' < m s) : Tot (some (Sum.inl s')) (LQ I m s Q) := ⟨_, rfl, h, k⟩
theorem Tot.brk {I : S → Prop} {m : S → Nat} {s : S} {e : E} {Q : E → Prop} (h : Q e) : Tot (some (Sum.inr e)) (LQ I m s Q) := ⟨_, rfl, h⟩
theorem Tot.loop {step : S → Option (S ⊕ E)} {Q : E → Prop} (I : S → Prop) (m : S → Nat) {s : S} (hI : I s) (hs : ∀ s, I s → Tot (step s) (LQ I m s Q)) : Tot (loopO step s) Q := by
  have key : ∀ n s, m s ≤ n → I s → Tot (loopO step s) Q := by
    intro n
    induction n with
    | zero =>
      intro s hm hI
      obtain ⟨r, e, h⟩ := hs s hI
      rw [loopO_eq, e]
      cases r with
      | inl s' => exact absurd h.2 (by omega)
      | inr e1 => exact ⟨e1, rfl, h⟩
    | succ n ih =>
      intro s hm hI
      obtain ⟨r, e, h⟩ := hs s hI
      rw [loopO_eq, e]
      cases r with
      | inl s' => exact ih s' (by have := h.2; omega) h.1
      | inr e1 => exact ⟨e1, rfl, h⟩
  exact key _ s (Nat.le_refl _) hI
end
/-- Sizes. -/
def okS (N : Nat) (s : Str) : Prop := s.length ≤ N
def okL {α : Type} (N : Nat) (p : α → Prop) (l : List α) : Prop := l.length ≤ N ∧ ∀ x ∈ l, p x
theorem okL.nth {α : Type} [Inhabited α] {N : Nat} {p : α → Prop} {l : List α} (h : okL N p l) {n : Int} (h0 : 0 ≤ n) (h1 : n < (l.length : Int)) : p (nth l n) := by
  unfold Trw.nth
  rw [List.getD_eq_getElem?_getD, List.getElem?_eq_getElem (by omega)]
  exact h.2 _ (List.getElem_mem _)
theorem nth_mem {α : Type} [Inhabited α] {l : List α} {n : Int} (h0 : 0 ≤ n) (h1 : n < (l.length : Int)) : nth l n ∈ l := by
  unfold Trw.nth
  rw [List.getD_eq_getElem?_getD, List.getElem?_eq_getElem (by omega)]
  exact List.getElem_mem _
theorem okL.nil {α : Type} {N : Nat} {p : α → Prop} : okL N p [] := ⟨Nat.zero_le _, fun _ h => absurd h (by simp)⟩
theorem okL.mono {α : Type} {N M : Nat} {p q : α → Prop} {l : List α} (h : okL N p l) (hN : N ≤ M) (hp : ∀ x, p x → q x) : okL M q l := ⟨Nat.le_trans h.1 hN, fun x hx => hp x (h.2 x hx)⟩
/-- Of a list's elements, ahead of place i. -/
def upTo {α : Type} (p : α → Prop) (l : List α) (i : Int) : Prop := ∀ k : Nat, (k : Int) < i → ∀ h : k < l.length, p l[k]
theorem upTo.zero {α : Type} {p : α → Prop} {l : List α} : upTo p l 0 := fun k h => absurd h (by omega)
theorem upTo.step {α : Type} [Inhabited α] {p : α → Prop} {l : List α} {i : Int} (h : upTo p l i) (h0 : 0 ≤ i) (h1 : i < (l.length : Int)) (hp : p (nth l i)) : upTo p l (i + 1) := by
  intro k hk hl
  by_cases hki : (k : Int) = i
  · subst hki
    unfold nth at hp
    rw [Int.toNat_natCast, List.getD_eq_getElem?_getD, List.getElem?_eq_getElem hl] at hp
    exact hp
  · exact h k (by omega) hl
theorem upTo.set {α : Type} {p : α → Prop} {l : List α} {i : Int} {x : α} (h : upTo p l i) (h0 : 0 ≤ i) (hp : p x) : upTo p (l.set i.toNat x) (i + 1) := by
  intro k hk hl
  rw [List.getElem_set]
  split
  · exact hp
  · exact h k (by omega) (by simpa using hl)
theorem upTo.all {α : Type} {p : α → Prop} {l : List α} {i : Int} (h : upTo p l i) (h1 : (l.length : Int) ≤ i) : ∀ x ∈ l, p x := by
  intro x hx
  obtain ⟨k, hk, rfl⟩ := List.getElem_of_mem hx
  exact h k (by omega) hk
theorem wrap64 {n : Int} (h0 : -9223372036854775808 ≤ n) (h1 : n ≤ 9223372036854775807) : IntKind.i64.wrap n = n := wrap_of_inK ⟨by simpa [IntKind.min, IntKind.signed, IntKind.bits] using h0, by simpa [IntKind.max, IntKind.signed, IntKind.bits] using h1⟩
theorem wrapu64 {n : Int} (h0 : 0 ≤ n) (h1 : n ≤ 18446744073709551615) : IntKind.u64.wrap n = n := wrap_of_inK ⟨by simpa [IntKind.min, IntKind.signed, IntKind.bits] using h0, by simpa [IntKind.max, IntKind.signed, IntKind.bits] using h1⟩
theorem inK_i64 {n : Int} : inK .i64 n ↔ -9223372036854775808 ≤ n ∧ n ≤ 9223372036854775807 := by
  simp [inK, IntKind.min, IntKind.max, IntKind.signed, IntKind.bits]
theorem inK_u64 {n : Int} : inK .u64 n ↔ 0 ≤ n ∧ n ≤ 18446744073709551615 := by
  simp [inK, IntKind.min, IntKind.max, IntKind.signed, IntKind.bits]
theorem wrapi_range (n : Int) : -9223372036854775808 ≤ IntKind.i64.wrap n ∧ IntKind.i64.wrap n ≤ 9223372036854775807 := inK_i64.1 (inK_wrap _ _)
theorem wrapu_range (n : Int) : 0 ≤ IntKind.u64.wrap n ∧ IntKind.u64.wrap n ≤ 18446744073709551615 := inK_u64.1 (inK_wrap _ _)
end Go.Trw
