/- Own work: the library's functions at this program, as contracts of the calculus. -/
import Derived.Test.YthdcblpadgdamaaGreatDoorTrwObj
import Derived.Test.YthdcblpadgdamaaGreatDoorTryzShelf
set_option linter.all false
namespace Go.Proofs
open Go Go.Trw
/-- What is known of the first memory. -/
def Base (W : World) : Prop := (∃ m, W.cell? ⟨0, 0, none⟩ = some (.int .i64 m)) ∧ Lib.TabIs Tryz.prog W "internal/strconv.uint64pow10" .u64 Lib.pow10Tab
theorem glob_maxLen {S : Nat → Prop} {w : World} (h : GLOB Base S w) : ∃ m, w.cell? ⟨0, 0, none⟩ = some (.int .i64 m) := by
  obtain ⟨W0, ⟨⟨m, h1⟩, _⟩, h2⟩ := h.cell
  exact ⟨m, h2 _ _ h1⟩
theorem glob_tab {S : Nat → Prop} {w : World} (h : GLOB Base S w) : Lib.TabIs Tryz.prog w "internal/strconv.uint64pow10" .u64 Lib.pow10Tab := by
  obtain ⟨W0, ⟨_, h1⟩, h2, h3⟩ := h
  unfold Lib.TabIs World.var? at h1 ⊢
  obtain ⟨g, k1, k2⟩ := Option.bind_eq_some_iff.1 h1
  rw [k1]
  show (match w.heap[g]? with | some (.cells cs _ _) => some cs | _ => none) = _
  have hg : g < W0.heap.size := by
    rcases Nat.lt_or_ge g W0.heap.size with k | k
    · exact k
    · rw [Array.getElem?_eq_none k] at k2; cases k2
  rw [(h3 g hg).1]; exact k2
theorem args1 {O : Nat → Prop} {w : World} {e1 : Ent} {args : List Value} (h : Sems noGs O w [e1] args) : ∃ v1, args = [v1] ∧ e1.sem noGs O w v1 := by
  cases h with
  | cons h1 t => cases t; exact ⟨_, rfl, h1⟩
theorem args2 {O : Nat → Prop} {w : World} {e1 e2 : Ent} {args : List Value} (h : Sems noGs O w [e1, e2] args) : ∃ v1 v2, args = [v1, v2] ∧ e1.sem noGs O w v1 ∧ e2.sem noGs O w v2 := by
  cases h with
  | cons h1 t => cases t with
    | cons h2 t => cases t; exact ⟨_, _, rfl, h1, h2⟩
def small (s : Str) : Prop := s.length < 4294967281
instance (s : Str) : Decidable (small s) := inferInstanceAs (Decidable (_ < _))
def strings_Contains (s t : Str) : Option Bool := if small s then some (Lib.contains s t) else none
theorem strings_Contains_con (s t : Str) (r : Bool) (hm : strings_Contains s t = some r) : PCon Base Tryz.prog 164 [D RStr s, D RStr t] (D RBool r) := by
  unfold strings_Contains at hm
  obtain ⟨hs, hm⟩ := of_guard hm
  cases hm
  intro w O args hO hg ha
  obtain ⟨v1, v2, rfl, h1, h2⟩ := args2 ha
  obtain ⟨rfl, _⟩ := RStr.val_iff.1 h1
  obtain ⟨rfl, _⟩ := RStr.val_iff.1 h2
  obtain ⟨m, hm⟩ := glob_maxLen hg
  refine (Tryz.strings_Contains ⟨s.toArray⟩ ⟨t.toArray⟩ m w (by simpa [small, ByteArray.size] using hs) hm).mono ?_
  rintro e w' ⟨rfl, rfl⟩
  exact ⟨_, rfl, Fut.refl _ _, RBool.val_iff.2 (by simp)⟩
def strings_Cut (s t : Str) : Option (Str × Str × Bool) := if small s then some (Lib.cut s t) else none
theorem cut_len (s t : Str) : (Lib.cut s t).1.length ≤ s.length ∧ (Lib.cut s t).2.1.length ≤ s.length := by
  unfold Lib.cut
  split
  · simp only [List.length_take, List.length_drop]; omega
  · simp
theorem strings_Cut_con (s t : Str) (r : Str × Str × Bool) (hm : strings_Cut s t = some r) : PCon Base Tryz.prog 205 [D RStr s, D RStr t] (TUP [D RStr r.1, D RStr r.2.1, D RBool r.2.2]) := by
  unfold strings_Cut at hm
  obtain ⟨hs, hm⟩ := of_guard hm
  cases hm
  intro w O args hO hg ha
  obtain ⟨v1, v2, rfl, h1, h2⟩ := args2 ha
  obtain ⟨rfl, hl⟩ := RStr.val_iff.1 h1
  obtain ⟨rfl, _⟩ := RStr.val_iff.1 h2
  obtain ⟨m, hm⟩ := glob_maxLen hg
  obtain ⟨l1, l2⟩ := cut_len s t
  refine (Tryz.strings_Cut ⟨s.toArray⟩ ⟨t.toArray⟩ m w (by simpa [small, ByteArray.size] using hs) hm).mono ?_
  rintro e w' ⟨rfl, n, rfl⟩
  refine ⟨_, rfl, Fut.of_heap rfl rfl rfl rfl, [_, _, _], rfl, .cons (RStr.val_iff.2 ⟨rfl, ?_⟩) (.cons (RStr.val_iff.2 ⟨rfl, ?_⟩) (.cons (RBool.val_iff.2 rfl) .nil))⟩
  · exact Nat.le_trans l1 hl
  · exact Nat.le_trans l2 hl
def strings_Compare (s t : Str) : Int := Lib.compareBytes s t
theorem compareBytes_cases : ∀ (s t : Str), Lib.compareBytes s t = -1 ∨ Lib.compareBytes s t = 0 ∨ Lib.compareBytes s t = 1
  | [], [] => by simp [Lib.compareBytes]
  | [], _ :: _ => by simp [Lib.compareBytes]
  | _ :: _, [] => by simp [Lib.compareBytes]
  | a :: s, b :: t => by
    unfold Lib.compareBytes
    split
    · simp
    · split
      · simp
      · exact compareBytes_cases s t
theorem strings_Compare_con (s t : Str) (r : Int) (hm : strings_Compare s t = r) : PCon Base Tryz.prog 230 [D RStr s, D RStr t] (D (RInt .i64) r) := by
  subst hm
  intro w O args hO hg ha
  obtain ⟨v1, v2, rfl, h1, h2⟩ := args2 ha
  obtain ⟨rfl, hl⟩ := RStr.val_iff.1 h1
  obtain ⟨rfl, _⟩ := RStr.val_iff.1 h2
  refine (Tryz.strings_Compare ⟨s.toArray⟩ ⟨t.toArray⟩ w).mono ?_
  rintro e w' ⟨rfl, rfl⟩
  refine ⟨_, rfl, Fut.refl _ _, RInt.val_iff.2 ⟨by simp [strings_Compare], ?_⟩⟩
  unfold strings_Compare
  rcases compareBytes_cases s t with h | h | h <;> rw [h] <;> decide
def strings_CutPrefix (s t : Str) : Str × Bool := (Lib.trimPrefix s t, Lib.hasPrefix s t)
theorem strings_CutPrefix_con (s t : Str) (r : Str × Bool) (hm : strings_CutPrefix s t = r) : PCon Base Tryz.prog 236 [D RStr s, D RStr t] (TUP [D RStr r.1, D RBool r.2]) := by
  subst hm
  intro w O args hO hg ha
  obtain ⟨v1, v2, rfl, h1, h2⟩ := args2 ha
  obtain ⟨rfl, hl⟩ := RStr.val_iff.1 h1
  obtain ⟨rfl, _⟩ := RStr.val_iff.1 h2
  refine (Tryz.strings_CutPrefix ⟨s.toArray⟩ ⟨t.toArray⟩ w).mono ?_
  rintro e w' ⟨rfl, rfl⟩
  refine ⟨_, rfl, Fut.refl _ _, [_, _], rfl, .cons (RStr.val_iff.2 ⟨rfl, ?_⟩) (.cons (RBool.val_iff.2 rfl) .nil)⟩
  refine Nat.le_trans ?_ hl
  show (Lib.trimPrefix s t).length ≤ s.length
  unfold Lib.trimPrefix
  split <;> simp
def strings_HasPrefix (s t : Str) : Bool := Lib.hasPrefix s t
theorem strings_HasPrefix_con (s t : Str) (r : Bool) (hm : strings_HasPrefix s t = r) : PCon Base Tryz.prog 237 [D RStr s, D RStr t] (D RBool r) := by
  subst hm
  intro w O args hO hg ha
  obtain ⟨v1, v2, rfl, h1, h2⟩ := args2 ha
  obtain ⟨rfl, hl⟩ := RStr.val_iff.1 h1
  obtain ⟨rfl, _⟩ := RStr.val_iff.1 h2
  refine (Tryz.strings_HasPrefix ⟨s.toArray⟩ ⟨t.toArray⟩ w).mono ?_
  rintro e w' ⟨rfl, rfl⟩
  exact ⟨_, rfl, Fut.refl _ _, RBool.val_iff.2 (by simp [strings_HasPrefix])⟩
def strconv_FormatInt (n b : Int) : Option Str := if b = 10 ∧ (Lib.itoa n).length ≤ maxS then some (Lib.itoa n) else none
theorem strconv_FormatInt_con (n b : Int) (r : Str) (hm : strconv_FormatInt n b = some r) : PCon Base Tryz.prog 235 [D (RInt .i64) n, D (RInt .i64) b] (D RStr r) := by
  unfold strconv_FormatInt at hm
  obtain ⟨hc, hm2⟩ := of_guard hm
  clear hm
  obtain ⟨rfl, hb⟩ := hc
  cases hm2
  intro w O args hO hg ha
  obtain ⟨v1, v2, rfl, h1, h2⟩ := args2 ha
  obtain ⟨rfl, k1, k2⟩ := RInt.val_iff.1 h1
  obtain ⟨rfl, _⟩ := RInt.val_iff.1 h2
  refine (Tryz.strconv_FormatInt_10 n (by simpa [IntKind.min, IntKind.signed, IntKind.bits] using k1) (by simpa [IntKind.max, IntKind.signed, IntKind.bits] using k2) w (glob_tab hg)).mono ?_
  rintro e w' ⟨rfl, k, os, rfl⟩
  refine ⟨_, rfl, ⟨rfl, rfl, rfl, ?_, ?_⟩, RStr.val_iff.2 ⟨rfl, hb⟩⟩
  · simp [Sort.grow, World.drewN]
  · intro b hb _
    show (w.heap ++ os)[b]? = _
    rw [Array.getElem?_append_left hb]
end Go.Proofs
