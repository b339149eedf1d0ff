/- Own work: what came in, as the row reads it, represents data. -/
import Derived.Test.YthdcblpadgdamaaGreatDoorTpBase
import Derived.Lib.LaidTab
import Derived.ProofKit
set_option linter.all false
namespace Go.Trw
open Go
def noB : Nat → Prop := fun _ => False
def Rd (P : Program) (w : World) (n t : Nat) {α : Type} (R : RT α) (ok : α → Prop) : Prop :=
  ∀ (H : Type) (enc : TypeId × Value → H) (cs : List Value) (x : DataW H × List MemPlace), DataW.trod enc P w 0 (fun _ => true) true n t cs = some x → ∃ d, R.rep noB w cs d ∧ ok d
section
variable {P : Program} {w : World} {n t : Nat} {α β : Type} {R : RT α} {ok ok' : α → Prop}
theorem maxLen_eq : maxLen = maxS := rfl
theorem Rd.zero : Rd P w 0 t R ok := fun H enc cs x h => by simp [DataW.trod] at h
theorem Rd.mono (h : Rd P w n t R ok) (k : ∀ d, ok d → ok' d) : Rd P w n t R ok' := fun H enc cs x hx => let ⟨d, h1, h2⟩ := h H enc cs x hx; ⟨d, h1, k d h2⟩
theorem rd_bool (hu : P.underlying t = some .bool) : Rd P w n t RBool (fun _ => True) := fun H enc cs x h => by
  obtain ⟨b, rfl, _⟩ := DataW.trod_bool hu h
  exact ⟨b, rfl, trivial⟩
theorem rd_int {k : IntKind} (hu : P.underlying t = some (.int k)) : Rd P w n t (RInt k) (inK k) := fun H enc cs x h => by
  obtain ⟨m, rfl, _, hw⟩ := DataW.trod_int hu h
  have : inK k m := by simpa [Lit.wf, inK] using hw
  exact ⟨m, ⟨rfl, this⟩, this⟩
theorem rd_str (hu : P.underlying t = some .string) : Rd P w n t RStr (okS maxS) := fun H enc cs x h => by
  obtain ⟨s, rfl, _, hl⟩ := DataW.trod_string hu h
  have hl' : s.data.toList.length ≤ maxS := maxLen_eq ▸ hl
  exact ⟨s.data.toList, ⟨by cases s; rfl, hl'⟩, hl'⟩
theorem choose_list {Q : Nat → α → Prop} : ∀ n : Nat, (∀ i, i < n → ∃ d, Q i d) → ∃ l : List α, l.length = n ∧ ∀ i (h : i < l.length), Q i l[i]
  | 0, _ => ⟨[], rfl, fun i h => absurd h (Nat.not_lt_zero i)⟩
  | n + 1, h => by
    obtain ⟨l, h1, h2⟩ := choose_list n fun i hi => h i (by omega)
    obtain ⟨d, hd⟩ := h n (by omega)
    refine ⟨l ++ [d], by simp [h1], fun i hi => ?_⟩
    by_cases k : i < l.length
    · rw [List.getElem_append_left k]; exact h2 i k
    · have : i = n := by simp at hi; omega
      subst this
      rw [List.getElem_append_right (by omega)]
      simpa [h1] using hd
theorem cells_at {w : World} {a : Addr} {m : Nat} {cs : List Value} (h : w.cells? 0 a m = some cs) : cs.length = m ∧ ∀ j (hj : j < cs.length), w.cell? (a.add j) = some cs[j] := by
  unfold World.cells? at h
  rw [if_pos (Nat.zero_le _)] at h
  have hl : cs.length = m := by simpa using Lib.mapM_length h
  refine ⟨hl, fun j hj => ?_⟩
  obtain ⟨b, hb, hf⟩ := Lib.mapM_at h j j (by rw [List.getElem?_range (by omega)])
  rw [List.getElem?_eq_getElem hj] at hb
  cases hb; exact hf
theorem spot_none {w : World} {a : Addr} {v : Value} (h : w.cell? a = some v) : a.spot = none ∧ a.block < w.heap.size := by
  unfold World.cell? at h
  split at h
  · rename_i c ty fr hb
    split at h
    · cases h
    · rename_i hs
      refine ⟨Option.not_isSome_iff_eq_none.1 hs, ?_⟩
      rcases Nat.lt_or_ge a.block w.heap.size with k | k
      · exact k
      · rw [Array.getElem?_eq_none k] at hb; cases hb
  · cases h
theorem rd_slice {e : Nat} (hu : P.underlying t = some (.slice e)) (he : Rd P w n e R ok) (hc : P.cellsOf e = R.size) (hs : 0 < R.size) : Rd P w (n + 1) t (RSlice R) (okL maxS ok) := fun H enc cs x h => by
  rcases DataW.trod_slice hu h with ⟨rfl, _⟩ | ⟨a, len, cap, elems, rest, m, hm, rfl, _, _, hlc, hcap, hel, hat, _⟩
  · exact ⟨[], ⟨none, 0, 0, rfl, rfl, Nat.le_refl _, Nat.zero_le _, .inl rfl⟩, okL.nil⟩
  · cases hm
    have hcap' : len ≤ maxS := by rw [maxLen_eq] at hcap; omega
    have each : ∀ i, i < len → ∃ d, (∃ ecs, R.rep noB w ecs d ∧ ecs.length = R.size ∧ ∀ j (hj : j < ecs.length), w.cell? ((a.add (i * R.size)).add j) = some ecs[j]) ∧ ok d := by
      intro i hi
      have h1 := hat i hi
      rw [List.getElem?_eq_getElem (by omega), hc] at h1
      obtain ⟨ecs, h2, h3⟩ := Option.bind_eq_some_iff.1 h1
      obtain ⟨d, h4, h5⟩ := he H enc ecs _ h3
      obtain ⟨h6, h7⟩ := cells_at h2
      exact ⟨d, ⟨ecs, h4, h6, h7⟩, h5⟩
    obtain ⟨l, hl, hq⟩ := choose_list len each
    refine ⟨l, ⟨some a, len, cap, rfl, hl, hlc, hcap', ?_⟩, by omega, fun x hx => ?_⟩
    · rcases Nat.eq_zero_or_pos len with h0 | h0
      · exact .inl (List.eq_nil_of_length_eq_zero (by omega))
      · obtain ⟨⟨ecs, e1, e2, e3⟩, _⟩ := hq 0 (by omega)
        obtain ⟨s1, s2⟩ := spot_none (e3 0 (by omega))
        obtain ⟨b, off, sp⟩ := a
        have hsp : sp = none := by simpa [Addr.add] using s1
        subst hsp
        refine .inr ⟨b, off, rfl, ⟨by simpa [Addr.add] using s2, fun k => k⟩, fun i hi => ?_⟩
        obtain ⟨⟨ecs, e1, e2, e3⟩, _⟩ := hq i hi
        refine ⟨ecs, e1, fun j hj => ?_⟩
        have := e3 j hj
        rwa [addr_add, addr_add] at this
    · obtain ⟨i, hi, rfl⟩ := List.getElem_of_mem hx
      exact (hq i hi).2
inductive RdFs (P : Program) (w : World) (n : Nat) : (fs : List Field) → (off : Nat) → {β : Type} → RT β → (β → Prop) → Prop
  | nil {off} : RdFs P w n [] off RNil (fun _ => True)
  | cons {f : Field} {fs : List Field} {off : Nat} {α β : Type} {R : RT α} {T : RT β} {ok : α → Prop} {ok' : β → Prop} : f.offset = off → P.cellsOf f.type = R.size → Rd P w n f.type R ok → RdFs P w n fs (off + R.size) T ok' → RdFs P w n (f :: fs) off (RCons R T) (fun d => ok d.1 ∧ ok' d.2)
theorem RdFs.get {fs : List Field} {off : Nat} {T : RT β} {ok : β → Prop} (h : RdFs P w n fs off T ok) : ∀ (H : Type) (enc : TypeId × Value → H) (cs : List Value), cs.length = off + T.size → (∀ (i : Nat) (f : Field), fs[i]? = some f → ∃ x, DataW.trod enc P w 0 (fun _ => true) true n f.type ((cs.drop f.offset).take (P.cellsOf f.type)) = some x) → ∃ d, T.rep noB w (cs.drop off) d ∧ ok d := by
  induction h with
  | nil => intro H enc cs hl _; exact ⟨(), by show _ = []; rw [List.drop_eq_nil_of_le (by simp [RNil] at hl; omega)], trivial⟩
  | cons h1 h2 h3 h4 ih =>
    intro H enc cs hl hf
    obtain ⟨x, hx⟩ := hf 0 _ rfl
    rw [h1, h2] at hx
    obtain ⟨d1, k1, k2⟩ := h3 H enc _ _ hx
    obtain ⟨d2, k3, k4⟩ := ih H enc cs (by simp [RCons] at hl; omega) (fun i f hi => hf (i + 1) f (by simpa using hi))
    exact ⟨(d1, d2), ⟨k1, by rw [List.drop_drop]; exact k3⟩, k2, k4⟩
theorem rd_struct {fs : Array Field} {T : RT β} {okT : β → Prop} (hu : P.underlying t = some (.struct fs)) (hf : RdFs P w n fs.toList 0 T okT) (hc : P.cellsOf t = T.size) (f : α → β) (g : β → α) (hfg : ∀ b, f (g b) = b) : Rd P w (n + 1) t (RMap f T) (fun d => okT (f d)) := fun H enc cs x h => by
  obtain ⟨xs, m, hm, _, hl, hn, hat⟩ := DataW.trod_struct hu h
  cases hm
  obtain ⟨d, k1, k2⟩ := hf.get H enc cs (by omega) (fun i f hi => by
    have h1 := hat i f (by simpa using hi)
    have h2 : i < fs.size := by
      rcases Nat.lt_or_ge i fs.size with k | k
      · exact k
      · rw [List.getElem?_eq_none (by simpa using k)] at hi; cases hi
    exact ⟨xs[i]'(by omega), by rw [h1, List.getElem?_eq_getElem (by omega)]⟩)
  exact ⟨g d, by show T.rep _ _ _ (f (g d)); rw [hfg]; simpa using k1, by show okT (f (g d)); rw [hfg]; exact k2⟩
theorem Rd.pt {RV : RT β} {okT : PT β → Prop} (h : Rd P w n t (RMap ptOf (RCons RStr (RCons RStr (RCons RV (RCons (RSlice (RP RV)) RNil))))) okT) : Rd P w n t (RP RV) okT := fun H enc cs x hx => let ⟨d, h1, h2⟩ := h H enc cs x hx; ⟨d, RP.put h1, h2⟩
end
end Go.Trw
