/- Own work: names, fields, values: that the functions answer, and what a yes says of the octets. -/
import Derived.Test.YthdcblpadgdamaaGreatDoorTpFew
import Derived.Lib.TrimUEq
set_option linter.all false
namespace Go.Trw
open Go
theorem decodeN_small {n b0 b1 b2 b3 : Nat} (h : (Lib.decodeN n b0 b1 b2 b3).1 < 128) : Lib.decodeN n b0 b1 b2 b3 = (b0, 1) := by
  unfold Lib.decodeN at *
  by_cases hb : b0 < 128
  · rw [if_pos hb]
  · exfalso
    revert h
    rw [if_neg hb]
    repeat' split
    all_goals (simp only; omega)
theorem rune_small {s : Str} {p : Nat} (h : runeOf s p < 128) : runeW s p = 1 ∧ ((s.getD p 0).toNat : Int) = runeOf s p := by
  unfold runeOf runeW at *
  rw [Lib.decode_N] at *
  rw [decodeN_small (by omega)]
  exact ⟨rfl, rfl⟩
theorem rune_range (s : Str) (p : Nat) : inK .i32 (runeOf s p) := by
  have := Lib.rune_le ⟨s.toArray⟩ p
  unfold runeOf
  simp only [inK, IntKind.min, IntKind.max, IntKind.signed, IntKind.bits]
  simp
  omega
theorem runeW_pos (s : Str) (p : Nat) : 1 ≤ runeW s p := Lib.width_pos _ _
end Go.Trw
namespace Go.Proofs
open Go Go.Trw
/-- The octets of a name's part: a small letter, a digit, '_'. -/
def partB (c : UInt8) : Prop := (97 ≤ c.toNat ∧ c.toNat ≤ 122) ∨ (48 ≤ c.toNat ∧ c.toNat ≤ 57) ∨ c.toNat = 95
def allB (p : UInt8 → Prop) (s : Str) : Prop := ∀ c ∈ s, p c
/-- .. of a pattern: '*' and '.' too. -/
def globB (c : UInt8) : Prop := partB c ∨ c = 42 ∨ c = 46
theorem part1_iff (n : Int) : name_part_1 n = true ↔ (97 ≤ n ∧ n ≤ 122) ∨ (48 ≤ n ∧ n ≤ 57) ∨ n = 95 := by
  unfold name_part_1; grind
theorem namePart (s : Str) : Tot (name_part s) (fun b => b = true → allB partB s ∧ s ≠ []) := by
  unfold name_part
  refine Tot.cut (fun e => e = Sum.inl false ∨ (e = Sum.inr () ∧ allB partB s)) (Tot.loop (fun p => ∀ k, k < p → k < s.length → partB (s.getD k 0)) (fun p => s.length - p) ?_ ?_) ?_
  · intro k hk; omega
  · intro p hI
    have hr := rune_range s p
    have hw := runeW_pos s p
    dsimp only
    refine Tot.ite (fun h1 => Tot.gd hr fun _ => Tot.ite (fun h2 => ?_) (fun h2 => ?_)) (fun h1 => ?_)
    · exact Tot.brk (.inl rfl)
    · simp only [decide_eq_true_eq] at h1
      have h3 : name_part_1 (runeOf s p) = true := by grind
      rw [part1_iff] at h3
      obtain ⟨w1, w2⟩ := rune_small (s := s) (p := p) (by omega)
      rw [if_pos h1, w1]
      refine Tot.next (fun k hk hl => ?_) (by omega)
      by_cases hkp : k = p
      · subst hkp
        unfold partB
        omega
      · exact hI k (by omega) hl
    · simp only [decide_eq_true_eq] at h1
      refine Tot.brk (.inr ⟨rfl, fun c hc => ?_⟩)
      obtain ⟨k, hk, rfl⟩ := List.getElem_of_mem hc
      have := hI k (by omega) hk
      rwa [List.getD_eq_getElem?_getD, List.getElem?_eq_getElem hk] at this
  · rintro (v | v) h
    · dsimp only; refine Tot.ret ?_; rcases h with h | h <;> simp_all
    · dsimp only; refine Tot.ret ?_; rcases h with h | h <;> simp_all
theorem occ1 {s : Str} {c : UInt8} {i : Nat} (h : Lib.occAt s [c] i = true) : s = s.take i ++ c :: s.drop (i + 1) := by
  unfold Lib.occAt at h
  have h2 : s.drop i = c :: s.drop (i + 1) := by
    cases hd : s.drop i with
    | nil => rw [hd] at h; simp at h
    | cons a t =>
      rw [hd] at h
      simp at h
      subst h
      congr 1
      have := congrArg List.tail hd
      simpa using this.symm
  conv => lhs; rw [← List.take_append_drop i s]
  rw [h2]
theorem cut_cat (s : Str) (c : UInt8) : s = (Lib.cut s [c]).1 ++ (if (Lib.cut s [c]).2.2 then c :: (Lib.cut s [c]).2.1 else []) := by
  unfold Lib.cut
  rcases Lib.index_spec s [c] with ⟨h1, _⟩ | ⟨i, h1, h2, h3, _⟩
  · rw [if_neg (by omega)]; simp
  · rw [if_pos (by omega), h1]
    simpa using occ1 h3
theorem not_contains {s : Str} {c : UInt8} (h : Lib.contains s [c] = false) : c ∉ s := by
  intro hc
  obtain ⟨a, b, rfl⟩ := List.append_of_mem hc
  unfold Lib.contains at h
  rcases Lib.index_spec (a ++ c :: b) [c] with ⟨h1, h2⟩ | ⟨i, h1, h2, h3, _⟩
  · have := h2 a.length (by simp)
    simp [Lib.occAt] at this
  · simp at h; omega
theorem stringsCut {s : Str} {c : UInt8} (h : s.length ≤ 16777216) : Tot (strings_Cut s [c]) (fun r => s = r.1 ++ (if r.2.2 then c :: r.2.1 else [])) := by
  unfold strings_Cut
  refine Tot.gd (by unfold small; omega) fun _ => Tot.ret (cut_cat s c)
theorem stringsContains {s : Str} {c : UInt8} (h : s.length ≤ 16777216) : Tot (strings_Contains s [c]) (fun r => r = false → c ∉ s) := by
  unfold strings_Contains
  refine Tot.gd (by unfold small; omega) fun _ => Tot.ret not_contains
theorem allB_app {p : UInt8 → Prop} {s t : Str} : allB p (s ++ t) ↔ allB p s ∧ allB p t := by
  unfold allB; simp only [List.mem_append]
  exact ⟨fun h => ⟨fun c hc => h c (.inl hc), fun c hc => h c (.inr hc)⟩, fun h c hc => hc.elim (h.1 c) (h.2 c)⟩
theorem allB_cons {p : UInt8 → Prop} {c : UInt8} {t : Str} : allB p (c :: t) ↔ p c ∧ allB p t := by
  unfold allB; simp
theorem nameTopicAll (s : Str) : Tot (name_all__name_part s) (fun b => b = true → allB globB s ∧ s.length ≤ 40) := by
  unfold name_all__name_part
  refine Tot.ite (fun _ => Tot.ret (by simp)) fun h => ?_
  have hl : s.length ≤ 40 := by simp at h; omega
  refine Tot.bind (Tot.loop (fun (v9, v10) => 0 ≤ v10 ∧ v10 ≤ 8 ∧ v9.length ≤ 40 ∧ ∃ pre, s = pre ++ v9 ∧ allB globB pre) (fun (v9, v10) => (8 - v10).toNat) ?_ ?_)
  · exact ⟨by omega, by omega, hl, [], rfl, fun c hc => absurd hc (by simp)⟩
  rintro ⟨v9, v10⟩ ⟨h1, h2, h3, pre, h4, h5⟩
  repeat' first
    | dsimp only
    | refine (stringsCut (by omega)).mono (fun _ _ => ?_)
    | refine (namePart _).mono (fun _ _ => ?_)
    | refine Tot.gd ?_ (fun _ => ?_)
    | refine Tot.ite (fun _ => ?_) (fun _ => ?_)
    | refine Tot.next ?_ ?_
    | refine Tot.brk ?_
    | refine Tot.ret ?_
    | refine Tot.bind ?_
  all_goals first | (clear h; grind) | skip
  · rename_i a1 r a2 b a3 a4 a5
    intro _
    have a6 := a3 (by simpa using a4)
    have a7 : r.2.2 = false := by simpa using a5
    rw [a7] at a2
    simp at a2
    refine ⟨?_, hl⟩
    rw [h4, allB_app, a2]
    exact ⟨h5, fun c hc => .inl (a6.1 c hc)⟩
  · rename_i a1 r a2 b a3 a4 a5
    have a6 := a3 (by simpa using a4)
    have a7 : r.2.2 = true := by simpa using a5
    rw [a7] at a2
    simp at a2
    have hn := congrArg List.length a2
    simp at hn
    simp at a1
    rw [wrap64 (by omega) (by omega)]
    refine ⟨by omega, by omega, by omega, pre ++ (r.1 ++ [46]), by rw [h4, a2]; simp, ?_⟩
    rw [allB_app, allB_app, allB_cons]
    exact ⟨h5, fun c hc => .inl (a6.1 c hc), .inr (.inr rfl), fun c hc => absurd hc (by simp)⟩
  · rename_i a1 r a2 b a3 a4 a5
    simp at a1
    rw [wrap64 (by omega) (by omega)]
    omega
theorem nameGlob1 (s : Str) : Tot (name_Glob_1 s) (fun b => b = true → allB globB s) := by
  unfold name_Glob_1
  repeat' first
    | dsimp only
    | refine (namePart _).mono (fun _ _ => ?_)
    | refine Tot.gd ?_ (fun _ => ?_)
    | refine Tot.ite (fun _ => ?_) (fun _ => ?_)
    | refine Tot.next ?_ ?_
    | refine Tot.brk ?_
    | refine Tot.ret ?_
    | refine Tot.bind ?_
  all_goals unfold allB globB at *
  all_goals grind
theorem nameGlobAll (s : Str) : Tot (name_all__name_Glob_1 s) (fun b => b = true → allB globB s ∧ s.length ≤ 40) := by
  unfold name_all__name_Glob_1
  refine Tot.ite (fun _ => Tot.ret (by simp)) fun h => ?_
  have hl : s.length ≤ 40 := by simp at h; omega
  refine Tot.bind (Tot.loop (fun (v9, v10) => 0 ≤ v10 ∧ v10 ≤ 8 ∧ v9.length ≤ 40 ∧ ∃ pre, s = pre ++ v9 ∧ allB globB pre) (fun (v9, v10) => (8 - v10).toNat) ?_ ?_)
  · exact ⟨by omega, by omega, hl, [], rfl, fun c hc => absurd hc (by simp)⟩
  rintro ⟨v9, v10⟩ ⟨h1, h2, h3, pre, h4, h5⟩
  repeat' first
    | dsimp only
    | refine (stringsCut (by omega)).mono (fun _ _ => ?_)
    | refine (nameGlob1 _).mono (fun _ _ => ?_)
    | refine Tot.gd ?_ (fun _ => ?_)
    | refine Tot.ite (fun _ => ?_) (fun _ => ?_)
    | refine Tot.next ?_ ?_
    | refine Tot.brk ?_
    | refine Tot.ret ?_
    | refine Tot.bind ?_
  all_goals first | (clear h; grind) | skip
  · rename_i a1 r a2 b a3 a4 a5
    intro _
    have a6 := a3 (by simpa using a4)
    have a7 : r.2.2 = false := by simpa using a5
    rw [a7] at a2
    simp at a2
    refine ⟨?_, hl⟩
    rw [h4, allB_app, a2]
    exact ⟨h5, a6⟩
  · rename_i a1 r a2 b a3 a4 a5
    have a6 := a3 (by simpa using a4)
    have a7 : r.2.2 = true := by simpa using a5
    rw [a7] at a2
    simp at a2
    have hn := congrArg List.length a2
    simp at hn
    simp at a1
    rw [wrap64 (by omega) (by omega)]
    refine ⟨by omega, by omega, by omega, pre ++ (r.1 ++ [46]), by rw [h4, a2]; simp, ?_⟩
    rw [allB_app, allB_app, allB_cons]
    exact ⟨h5, a6, .inr (.inr rfl), fun c hc => absurd hc (by simp)⟩
  · rename_i a1 r a2 b a3 a4 a5
    simp at a1
    rw [wrap64 (by omega) (by omega)]
    omega
theorem nameTopic (s : Str) : Tot (name_Topic s) (fun b => b = true → allB globB s ∧ s.length ≤ 40) := by
  unfold name_Topic
  refine Tot.bind ((nameTopicAll s).mono fun b hb => Tot.ret hb)
theorem nameGlob (s : Str) : Tot (name_Glob s) (fun b => b = true → allB globB s ∧ s.length ≤ 40) := by
  unfold name_Glob
  refine Tot.bind ((nameGlobAll s).mono fun b hb => Tot.ret hb)
theorem eventField {s : Str} : Tot (event_Field s) (fun b => b = true → allB globB s ∧ (46 : UInt8) ∉ s ∧ s.length ≤ 16) := by
  unfold event_Field
  repeat' first
    | dsimp only
    | refine (stringsContains (by grind)).mono (fun _ _ => ?_)
    | refine (nameTopic _).mono (fun _ _ => ?_)
    | refine Tot.gd ?_ (fun _ => ?_)
    | refine Tot.ite (fun _ => ?_) (fun _ => ?_)
    | refine Tot.next ?_ ?_
    | refine Tot.brk ?_
    | refine Tot.ret ?_
    | refine Tot.bind ?_
  all_goals grind
theorem valMay (v : api_Value) : val_May v = true ↔ (v.Num = true ∧ v.S = []) ∨ (v.Num = false ∧ v.N = 0 ∧ v.S.length ≤ 60) := by
  unfold val_May; grind
end Go.Proofs
