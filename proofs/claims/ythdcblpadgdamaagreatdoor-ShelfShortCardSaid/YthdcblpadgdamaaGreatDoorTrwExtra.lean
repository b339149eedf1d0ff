/- Own work: zero values; arrays; slices of the call's own: made, appended to, read, written, let go. -/
import Derived.Test.YthdcblpadgdamaaGreatDoorTrwCall
set_option linter.all false
namespace Go.Trw
open Go
instance (k : IntKind) (n : Int) : Decidable (inK k n) := inferInstanceAs (Decidable (_ ∧ _))
/-- Cells that are data in whatever world. -/
def ZR {α : Type} (R : RT α) (cs : List Value) (z : α) : Prop := ∀ S w, R.rep S w cs z
theorem ZR.int {k : IntKind} (h : inK k 0) : ZR (RInt k) [.int k 0] 0 := fun _ _ => ⟨rfl, h⟩
theorem ZR.bool : ZR RBool [.bool false] false := fun _ _ => rfl
theorem ZR.str : ZR RStr [.string ⟨#[]⟩] [] := fun _ _ => ⟨rfl, Nat.zero_le _⟩
theorem ZR.nil {α : Type} {R : RT α} : ZR (RSlice R) [.slice none 0 0] [] := fun _ _ => ⟨none, 0, 0, rfl, rfl, Nat.le_refl _, Nat.zero_le _, .inl rfl⟩
theorem ZR.unit : ZR RNil [] () := fun _ _ => rfl
theorem ZR.cons {α β : Type} {R : RT α} {T : RT β} {c1 c2 : List Value} {z1 : α} {z2 : β} (h1 : ZR R c1 z1) (h2 : ZR T c2 z2) : ZR (RCons R T) (c1 ++ c2) (z1, z2) := fun S w => by
  have hl := R.len (h1 S w)
  have e1 : (c1 ++ c2).take R.size = c1 := by rw [← hl]; simp
  have e2 : (c1 ++ c2).drop R.size = c2 := by rw [← hl]; simp
  exact ⟨by rw [e1]; exact h1 S w, by rw [e2]; exact h2 S w⟩
theorem ZR.map {α β : Type} {f : α → β} {R : RT β} {cs : List Value} {z : α} (h : ZR R cs (f z)) : ZR (RMap f R) cs z := h
theorem ZeroOK.agg {P : Program} {T : Nat} {α : Type} {R : RT α} {cs : List Value} {z : α} (h : (P.info? T).bind (·.zero) = some (.agg cs.toArray)) (hz : ZR R cs z) (ha : R.agg = true) : ZeroOK P T R z :=
  ⟨⟨_, h, fun S w => ⟨fun _ => ⟨_, rfl, by simpa using hz S w⟩, (fun k => by rw [ha] at k; cases k)⟩⟩⟩
theorem ZeroOK.one {P : Program} {T : Nat} {α : Type} {R : RT α} {v : Value} {z : α} (h : (P.info? T).bind (·.zero) = some v) (hz : ZR R [v] z) (ha : R.agg = false) : ZeroOK P T R z :=
  ⟨⟨_, h, fun S w => ⟨(fun k => by rw [ha] at k; cases k), fun _ => hz S w⟩⟩⟩
end Go.Trw
