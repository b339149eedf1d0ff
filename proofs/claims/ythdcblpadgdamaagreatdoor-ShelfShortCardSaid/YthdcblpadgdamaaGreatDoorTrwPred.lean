/- Own work: trees of structs (a struct with a list of its own kind as its last field). -/
import Derived.Test.YthdcblpadgdamaaGreatDoorTrwFill
set_option linter.all false
namespace Go.Trw
open Go
inductive PT (β : Type) where
  | mk : Str → Str → β → List (PT β) → PT β
namespace PT
variable {β : Type}
def Op : PT β → Str | .mk o _ _ _ => o
def S : PT β → Str | .mk _ s _ _ => s
def V : PT β → β | .mk _ _ v _ => v
def L : PT β → List (PT β) | .mk _ _ _ l => l
def setOp : PT β → Str → PT β | .mk _ s v l, x => .mk x s v l
def setS : PT β → Str → PT β | .mk o _ v l, x => .mk o x v l
def setV : PT β → β → PT β | .mk o s _ l, x => .mk o s x l
def setL : PT β → List (PT β) → PT β | .mk o s v _, x => .mk o s v x
end PT
instance {β : Type} [Inhabited β] : Inhabited (PT β) := ⟨.mk [] [] default []⟩
section
variable {β : Type}
def ptOf (p : PT β) : Str × Str × β × List (PT β) × Unit := (p.Op, p.S, p.V, p.L, ())
def RPn (RV : RT β) : Nat → RT (PT β)
  | 0 => { agg := true, size := 1 + (1 + (RV.size + (1 + 0))), rep := fun _ _ _ _ => False, len := fun h => h.elim, flat := fun h => h.elim, one := (fun h => nomatch h), stable := fun h _ => h.elim }
  | n + 1 => RMap ptOf (RCons RStr (RCons RStr (RCons RV (RCons (RSlice (RPn RV n)) RNil))))
theorem RPn_size (RV : RT β) (n : Nat) : (RPn RV n).size = 1 + (1 + (RV.size + (1 + 0))) := by cases n <;> rfl
theorem RSlice.lift {α : Type} {R R' : RT α} (hs : R.size = R'.size) {S : Nat → Prop} {w : World} {cs : List Value} {l : List α} (h : (RSlice R).rep S w cs l) (hr : ∀ cs, ∀ d ∈ l, R.rep S w cs d → R'.rep S w cs d) : (RSlice R').rep S w cs l := by
  obtain ⟨ao, n, c, h1, h2, h3, h4, h5⟩ := h
  refine ⟨ao, n, c, h1, h2, h3, h4, h5.imp id ?_⟩
  rintro ⟨b, off, k1, k2, k3⟩
  refine ⟨b, off, k1, k2, fun i hi => ?_⟩
  obtain ⟨ecs, q1, q2⟩ := k3 i hi
  exact ⟨ecs, hr _ _ (List.getElem_mem hi) q1, by rw [← hs]; exact q2⟩
theorem RPn.mono (RV : RT β) : ∀ (n : Nat) {S : Nat → Prop} {w : World} {cs : List Value} {d : PT β}, (RPn RV n).rep S w cs d → (RPn RV (n + 1)).rep S w cs d
  | 0, _, _, _, _, h => h.elim
  | n + 1, S, w, cs, d, h => by
    obtain ⟨h1, h2, h3, h4, h5⟩ := h
    exact ⟨h1, h2, h3, RSlice.lift (by rw [RPn_size, RPn_size]) h4 (fun cs d _ k => RPn.mono RV n k), h5⟩
theorem RPn.le (RV : RT β) {n m : Nat} (hnm : n ≤ m) {S : Nat → Prop} {w : World} {cs : List Value} {d : PT β} (h : (RPn RV n).rep S w cs d) : (RPn RV m).rep S w cs d := by
  induction hnm with
  | refl => exact h
  | step _ ih => exact RPn.mono RV _ ih
def RP (RV : RT β) : RT (PT β) where
  agg := true
  size := 1 + (1 + (RV.size + (1 + 0)))
  rep S w cs d := ∃ n, (RPn RV n).rep S w cs d
  len := fun ⟨n, h⟩ => by rw [(RPn RV n).len h, RPn_size]
  flat := fun ⟨n, h⟩ => (RPn RV n).flat h
  one := fun h => nomatch h
  stable := fun ⟨n, h⟩ hl => ⟨n, (RPn RV n).stable h hl⟩
theorem RP.get {RV : RT β} {S : Nat → Prop} {w : World} {cs : List Value} {d : PT β} (h : (RP RV).rep S w cs d) : (RMap ptOf (RCons RStr (RCons RStr (RCons RV (RCons (RSlice (RP RV)) RNil))))).rep S w cs d := by
  obtain ⟨n, h⟩ := h
  cases n with
  | zero => exact h.elim
  | succ n =>
    obtain ⟨h1, h2, h3, h4, h5⟩ := h
    exact ⟨h1, h2, h3, RSlice.lift (by rw [RPn_size]; rfl) h4 (fun cs d _ k => ⟨n, k⟩), h5⟩
theorem bound_of {P : Nat → Nat → Prop} (hm : ∀ i n m, n ≤ m → P i n → P i m) : ∀ k, (∀ i, i < k → ∃ n, P i n) → ∃ N, ∀ i, i < k → P i N
  | 0, _ => ⟨0, fun i hi => absurd hi (Nat.not_lt_zero i)⟩
  | k + 1, h => by
    obtain ⟨N, hN⟩ := bound_of hm k fun i hi => h i (by omega)
    obtain ⟨n, hn⟩ := h k (by omega)
    refine ⟨max N n, fun i hi => ?_⟩
    by_cases hik : i = k
    · subst hik; exact hm _ _ _ (Nat.le_max_right _ _) hn
    · exact hm _ _ _ (Nat.le_max_left _ _) (hN i (by omega))
theorem RP.put {RV : RT β} {S : Nat → Prop} {w : World} {cs : List Value} {d : PT β} (h : (RMap ptOf (RCons RStr (RCons RStr (RCons RV (RCons (RSlice (RP RV)) RNil))))).rep S w cs d) : (RP RV).rep S w cs d := by
  obtain ⟨h1, h2, h3, ⟨ao, n, c, k1, k2, k3, k4, k5⟩, h5⟩ := h
  rcases k5 with k5 | ⟨b, off, q1, q2, q3⟩
  · exact ⟨1, h1, h2, h3, ⟨ao, n, c, k1, k2, k3, k4, .inl k5⟩, h5⟩
  · obtain ⟨N, hN⟩ := bound_of (P := fun i N => ∀ hi : i < d.L.length, ∃ ecs, (RPn RV N).rep S w ecs d.L[i] ∧ CellsAt w b (off + i * (RP RV).size) ecs)
      (fun i n m hnm hp hi => let ⟨ecs, r1, r2⟩ := hp hi; ⟨ecs, RPn.le RV hnm r1, r2⟩) d.L.length (fun i hi => by
        obtain ⟨ecs, ⟨n, r1⟩, r2⟩ := q3 i hi
        exact ⟨n, fun _ => ⟨ecs, r1, r2⟩⟩)
    refine ⟨N + 1, h1, h2, h3, ⟨ao, n, c, k1, k2, k3, k4, .inr ⟨b, off, q1, q2, fun i hi => ?_⟩⟩, h5⟩
    obtain ⟨ecs, r1, r2⟩ := hN i hi hi
    exact ⟨ecs, r1, by rw [RPn_size]; exact r2⟩
theorem FieldOf.pt {γ : Type} {RV : RT β} {Rf : RT γ} {off : Nat} {get : PT β → γ} (h : FieldOf (RMap ptOf (RCons RStr (RCons RStr (RCons RV (RCons (RSlice (RP RV)) RNil))))) off Rf get) : FieldOf (RP RV) off Rf get :=
  ⟨fun k => h.get (RP.get k), h.le⟩
theorem FieldSet.pt {γ : Type} {RV : RT β} {Rf : RT γ} {off : Nat} {set : PT β → γ → PT β} (h : FieldSet (RMap ptOf (RCons RStr (RCons RStr (RCons RV (RCons (RSlice (RP RV)) RNil))))) off Rf set) : FieldSet (RP RV) off Rf set :=
  ⟨fun k hx => RP.put (h.set (RP.get k) hx), h.le⟩
end
theorem ZR.pt {β : Type} {RV : RT β} {cs : List Value} {z : PT β} (h : ZR (RMap ptOf (RCons RStr (RCons RStr (RCons RV (RCons (RSlice (RP RV)) RNil))))) cs z) : ZR (RP RV) cs z := fun S w => RP.put (h S w)
/-- How deep calls of a function by itself may go. -/
def FUEL : Nat := 1000
end Go.Trw
