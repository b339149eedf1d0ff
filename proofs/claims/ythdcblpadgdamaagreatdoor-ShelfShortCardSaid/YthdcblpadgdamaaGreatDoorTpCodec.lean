/- Own work: octets that can be told apart, in plain Lean. -/
import Derived.Test.YthdcblpadgdamaaGreatDoorTpCheck
import Derived.Lib.ItoaLen
import Derived.Lib.ItoaMem
set_option linter.all false
namespace Go.Proofs
open Go Go.Trw
/-- What stands ahead can be told from what is behind it. -/
def Dec {α : Type} (P : α → Prop) (f : α → Str) : Prop := ∀ a b r s, P a → P b → f a ++ r = f b ++ s → a = b ∧ r = s
def packN (n : Nat) : Str := if h : n < 128 then [UInt8.ofNat n] else UInt8.ofNat (n % 128 + 128) :: packN (n / 128)
termination_by n
decreasing_by omega
theorem packN_lt {n : Nat} (h : n < 128) : packN n = [UInt8.ofNat n] := by rw [packN, dif_pos h]
theorem packN_ge {n : Nat} (h : ¬ n < 128) : packN n = UInt8.ofNat (n % 128 + 128) :: packN (n / 128) := by rw [packN, dif_neg h]
theorem u8_inj {m n : Nat} (hm : m < 256) (hn : n < 256) (h : UInt8.ofNat m = UInt8.ofNat n) : m = n := by
  have := congrArg UInt8.toNat h
  simpa [Nat.mod_eq_of_lt hm, Nat.mod_eq_of_lt hn] using this
theorem packN_dec : ∀ (m n : Nat) (r s : Str), packN m ++ r = packN n ++ s → m = n ∧ r = s := by
  intro m
  induction m using Nat.strongRecOn with
  | ind m ih =>
    intro n r s h
    by_cases hm : m < 128
    · by_cases hn : n < 128
      · rw [packN_lt hm, packN_lt hn] at h
        simp only [List.cons_append, List.nil_append, List.cons.injEq] at h
        exact ⟨u8_inj (by omega) (by omega) h.1, h.2⟩
      · rw [packN_lt hm, packN_ge hn] at h
        simp only [List.cons_append, List.nil_append, List.cons.injEq] at h
        have := u8_inj (by omega) (by omega) h.1
        omega
    · by_cases hn : n < 128
      · rw [packN_ge hm, packN_lt hn] at h
        simp only [List.cons_append, List.nil_append, List.cons.injEq] at h
        have := u8_inj (by omega) (by omega) h.1
        omega
      · rw [packN_ge hm, packN_ge hn] at h
        simp only [List.cons_append, List.cons.injEq] at h
        have h1 := u8_inj (by omega) (by omega) h.1
        obtain ⟨h2, h3⟩ := ih (m / 128) (by omega) _ _ _ h.2
        exact ⟨by omega, h3⟩
theorem packN_len : ∀ (k n : Nat), n < 128 ^ (k + 1) → (packN n).length ≤ k + 1
  | 0, n, h => by rw [packN_lt (by simpa using h)]; simp
  | k + 1, n, h => by
    by_cases hn : n < 128
    · rw [packN_lt hn]; simp
    · rw [packN_ge hn]
      have := packN_len k (n / 128) (by rw [Nat.pow_succ] at h; omega)
      simp; omega
theorem packN_len10 {n : Nat} (h : n ≤ 18446744073709551615) : (packN n).length ≤ 10 := packN_len 9 n (by omega)
theorem packN_pos (n : Nat) : 1 ≤ (packN n).length := by
  by_cases hn : n < 128
  · rw [packN_lt hn]; simp
  · rw [packN_ge hn]; simp
def foldN (n : Int) : Nat := if 0 ≤ n then 2 * n.toNat else 2 * (-n - 1).toNat + 1
theorem foldN_inj {m n : Int} (h : foldN m = foldN n) : m = n := by unfold foldN at h; split at h <;> split at h <;> omega
def idL (n : Int) : Str := packN n.toNat
def numL (n : Int) : Str := packN (foldN n)
def textL (s : Str) : Str := packN s.length ++ s
def listL {α : Type} (f : α → Str) (l : List α) : Str := packN l.length ++ (l.map f).flatten
theorem idDec : Dec (fun n : Int => 0 ≤ n) idL := fun a b r s ha hb h => by
  obtain ⟨h1, h2⟩ := packN_dec _ _ _ _ h
  exact ⟨by omega, h2⟩
theorem numDec : Dec (fun _ => True) numL := fun a b r s ha hb h => by
  obtain ⟨h1, h2⟩ := packN_dec _ _ _ _ h
  exact ⟨foldN_inj h1, h2⟩
theorem textDec : Dec (fun _ => True) textL := fun a b r s _ _ h => by
  unfold textL at h
  rw [List.append_assoc, List.append_assoc] at h
  obtain ⟨h1, h2⟩ := packN_dec _ _ _ _ h
  exact List.append_inj h2 h1
theorem flatDec {α : Type} {P : α → Prop} {f : α → Str} (hf : Dec P f) : ∀ (l m : List α) (r s : Str), l.length = m.length → (∀ x ∈ l, P x) → (∀ x ∈ m, P x) → (l.map f).flatten ++ r = (m.map f).flatten ++ s → l = m ∧ r = s
  | [], [], r, s, _, _, _, h => ⟨rfl, by simpa using h⟩
  | [], _ :: _, _, _, h, _, _, _ => by simp at h
  | _ :: _, [], _, _, h, _, _, _ => by simp at h
  | a :: l, b :: m, r, s, hl, ha, hb, h => by
    simp only [List.map_cons, List.flatten_cons, List.append_assoc] at h
    obtain ⟨rfl, h2⟩ := hf _ _ _ _ (ha a (by simp)) (hb b (by simp)) h
    obtain ⟨rfl, h3⟩ := flatDec hf l m r s (by simpa using hl) (fun x hx => ha x (by simp [hx])) (fun x hx => hb x (by simp [hx])) h2
    exact ⟨rfl, h3⟩
theorem listDec {α : Type} {P : α → Prop} {f : α → Str} (hf : Dec P f) : Dec (fun l : List α => ∀ x ∈ l, P x) (listL f) := fun a b r s ha hb h => by
  unfold listL at h
  rw [List.append_assoc, List.append_assoc] at h
  obtain ⟨h1, h2⟩ := packN_dec _ _ _ _ h
  exact flatDec hf _ _ _ _ h1 ha hb h2
/-! ### Values -/
def valL (v : api_Value) : Str := if v.Num then 1 :: packN (foldN v.N) else 2 :: (packN v.S.length ++ v.S)
theorem valDec : Dec (fun v => val_May v = true) valL := fun a b r s ha hb h => by
  replace ha := (valMay _).1 ha
  replace hb := (valMay _).1 hb
  obtain ⟨an, ai, at2⟩ := a
  obtain ⟨bn, bi, bs⟩ := b
  unfold valL at h
  dsimp only at *
  rcases ha with ⟨rfl, rfl⟩ | ⟨rfl, rfl, _⟩ <;> rcases hb with ⟨rfl, rfl⟩ | ⟨rfl, rfl, _⟩ <;> simp only [if_true, List.cons_append, List.append_assoc, List.cons.injEq, Bool.false_eq_true, if_false] at h
  · obtain ⟨h1, h2⟩ := packN_dec _ _ _ _ h.2
    exact ⟨by rw [foldN_inj h1], h2⟩
  · exact absurd h.1 (by decide)
  · exact absurd h.1 (by decide)
  · obtain ⟨h1, h2⟩ := packN_dec _ _ _ _ h.2
    obtain ⟨h3, h4⟩ := List.append_inj h2 h1
    exact ⟨by rw [h3], h4⟩
/-- A text with its two marks escaped. -/
def escL (s : Str) : Str := s.flatMap fun c => if c = 34 ∨ c = 92 then [92, c] else [c]
def vtext (v : api_Value) : Str := if v.Num then Lib.itoa v.N else 34 :: (escL v.S ++ [34])
theorem escDec : ∀ (s t r q : Str), escL s ++ 34 :: r = escL t ++ 34 :: q → s = t ∧ r = q := by
  intro s
  induction s with
  | nil =>
    intro t r q h
    cases t with
    | nil => simpa [escL] using h
    | cons c t =>
      simp only [escL, List.flatMap_nil, List.nil_append, List.flatMap_cons] at h
      split at h
      · simp at h
      · rename_i hc; simp at h; exact absurd (.inl h.1.symm) hc
  | cons a s ih =>
    intro t r q h
    cases t with
    | nil =>
      simp only [escL, List.flatMap_nil, List.nil_append, List.flatMap_cons] at h
      split at h
      · simp at h
      · rename_i hc; simp at h; exact absurd (.inl h.1) hc
    | cons c t =>
      have e1 : ∀ (c : UInt8) (s : Str), escL (c :: s) = (if c = 34 ∨ c = 92 then [92, c] else [c]) ++ escL s := fun c s => by simp [escL]
      rw [e1, e1] at h
      split at h <;> split at h
      · simp at h
        obtain ⟨h1, h2⟩ := ih _ _ _ h.2
        exact ⟨by rw [h.1, h1], h2⟩
      · rename_i h1 h2; simp at h; exact absurd (.inr h.1.symm) h2
      · rename_i h1 h2; simp at h; exact absurd (.inr h.1) h1
      · simp at h
        obtain ⟨h1, h2⟩ := ih _ _ _ h.2
        exact ⟨by rw [h.1, h1], h2⟩
theorem splitAt {c : UInt8} : ∀ (l m r s : Str), c ∉ l → c ∉ m → l ++ c :: r = m ++ c :: s → l = m ∧ r = s
  | [], [], r, s, _, _, h => ⟨rfl, by simpa using h⟩
  | [], b :: m, r, s, _, hb, h => by simp at h; exact absurd (by simp [h.1]) hb
  | a :: l, [], r, s, ha, _, h => by simp at h; exact absurd (by simp [h.1]) ha
  | a :: l, b :: m, r, s, ha, hb, h => by
    simp only [List.cons_append, List.cons.injEq] at h
    obtain ⟨rfl, h⟩ := h
    obtain ⟨rfl, h2⟩ := splitAt l m r s (fun k => ha (by simp [k])) (fun k => hb (by simp [k])) h
    exact ⟨rfl, h2⟩
def decVal (l : Str) : Nat := l.foldl (fun a c => 10 * a + (c.toNat - 48)) 0
theorem decVal_digits : ∀ u : Nat, decVal (Lib.decDigits u) = u ∧ ∀ c ∈ Lib.decDigits u, 48 ≤ c.toNat ∧ c.toNat ≤ 57 := by
  intro u
  induction u using Nat.strongRecOn with
  | ind u ih =>
    rw [Lib.decDigits]
    split
    · rename_i h
      refine ⟨?_, fun c hc => ?_⟩
      · unfold decVal; simp; omega
      · simp at hc; subst hc; simp; omega
    · rename_i h
      obtain ⟨h1, h2⟩ := ih (u / 10) (by omega)
      refine ⟨?_, fun c hc => ?_⟩
      · unfold decVal at *
        rw [List.foldl_append, h1]; simp; omega
      · rw [List.mem_append] at hc
        rcases hc with hc | hc
        · exact h2 c hc
        · simp at hc; subst hc; simp; omega
theorem digits_inj {u v : Nat} (h : Lib.decDigits u = Lib.decDigits v) : u = v := by
  rw [← (decVal_digits u).1, h, (decVal_digits v).1]
theorem itoa_mem {n : Int} {c : UInt8} (h : c ∈ Lib.itoa n) : c.toNat = 45 ∨ (48 ≤ c.toNat ∧ c.toNat ≤ 57) := by
  unfold Lib.itoa at h
  split at h
  · rw [List.mem_cons] at h
    rcases h with rfl | h
    · exact .inl rfl
    · exact .inr ((decVal_digits _).2 c h)
  · exact .inr ((decVal_digits _).2 c h)
theorem digits_head {u : Nat} {l : Str} (h : Lib.decDigits u = 45 :: l) : False := by
  have := (decVal_digits u).2 45 (by rw [h]; simp)
  simp at this
theorem itoa_inj {m n : Int} (h : Lib.itoa m = Lib.itoa n) : m = n := by
  unfold Lib.itoa at h
  split at h <;> split at h
  · have := digits_inj (List.cons.inj h).2; omega
  · exact (digits_head h.symm).elim
  · exact (digits_head h).elim
  · have := digits_inj h; omega
/-- Texts of values, in brackets. -/
theorem vtextDec {v w : api_Value} {r s : Str} (hv : val_May v = true) (hw : val_May w = true) (h : vtext v ++ 41 :: r = vtext w ++ 41 :: s) : v = w ∧ r = s := by
  replace hv := (valMay _).1 hv
  replace hw := (valMay _).1 hw
  obtain ⟨an, ai, at2⟩ := v
  obtain ⟨bn, bi, bs⟩ := w
  unfold vtext at h
  dsimp only at *
  have hno : ∀ n : Int, (41 : UInt8) ∉ Lib.itoa n := fun n k => by have := itoa_mem k; simp at this
  have hno2 : ∀ (n : Int) (l t : Str), Lib.itoa n ++ 41 :: l = 34 :: t → False := fun n l t k => by
    cases hi : Lib.itoa n with
    | nil => rw [hi] at k; simp at k
    | cons a b =>
      rw [hi] at k; simp at k
      have := itoa_mem (n := n) (c := a) (by rw [hi]; simp)
      rw [k.1] at this; simp at this
  rcases hv with ⟨rfl, rfl⟩ | ⟨rfl, rfl, _⟩ <;> rcases hw with ⟨rfl, rfl⟩ | ⟨rfl, rfl, _⟩ <;> simp only [if_true, List.cons_append, List.append_assoc, List.cons.injEq, Bool.false_eq_true, if_false, List.nil_append] at h
  · obtain ⟨h1, h2⟩ := splitAt _ _ _ _ (hno _) (hno _) h
    exact ⟨by rw [itoa_inj h1], h2⟩
  · exact (hno2 _ _ _ h).elim
  · exact (hno2 _ _ _ h.symm).elim
  · obtain ⟨h1, h2⟩ := escDec _ _ _ _ h.2
    simp at h2
    exact ⟨by rw [h1], h2⟩
/-! ### Predicates -/
/-- The text of a predicate that may be. -/
inductive PX : Nat → api_Pred → Str → Prop
  | all {d} : PX (d + 1) (.mk [97, 108, 108] [] z_api_Value []) [97, 108, 108]
  | topic {d s} : nameOK s → PX (d + 1) (.mk [116, 111, 112, 105, 99] s z_api_Value []) ([116, 111, 112, 105, 99, 40] ++ (s ++ [41]))
  | has {d s} : nameOK s → PX (d + 1) (.mk [104, 97, 115] s z_api_Value []) ([104, 97, 115, 40] ++ (s ++ [41]))
  | eq {d s v} : nameOK s → val_May v = true → PX (d + 1) (.mk [101, 113] s v []) ([40] ++ (s ++ ([32, 61, 32] ++ (vtext v ++ [41]))))
  | lt {d s v} : nameOK s → val_May v = true → PX (d + 1) (.mk [108, 116] s v []) ([40] ++ (s ++ ([32, 60, 32] ++ (vtext v ++ [41]))))
  | not {d p t} : PX d p t → PX (d + 1) (.mk [110, 111, 116] [] z_api_Value [p]) ([40, 110, 111, 116, 32] ++ (t ++ [41]))
  | and {d p q t u} : PX d p t → PX d q u → PX (d + 1) (.mk [97, 110, 100] [] z_api_Value [p, q]) ([40] ++ (t ++ ([32, 97, 110, 100, 32] ++ (u ++ [41]))))
  | or {d p q t u} : PX d p t → PX d q u → PX (d + 1) (.mk [111, 114] [] z_api_Value [p, q]) ([40] ++ (t ++ ([32, 111, 114, 32] ++ (u ++ [41]))))
theorem PX.of {d : Nat} {p : api_Pred} (h : PV d p) : ∃ t, PX d p t := by
  induction h with
  | all => exact ⟨_, .all⟩
  | topic h => exact ⟨_, .topic h⟩
  | has h => exact ⟨_, .has h⟩
  | eq h k => exact ⟨_, .eq h k⟩
  | lt h k => exact ⟨_, .lt h k⟩
  | not _ h => obtain ⟨t, h⟩ := h; exact ⟨_, .not h⟩
  | and _ _ h k => obtain ⟨t, h⟩ := h; obtain ⟨u, k⟩ := k; exact ⟨_, .and h k⟩
  | or _ _ h k => obtain ⟨t, h⟩ := h; obtain ⟨u, k⟩ := k; exact ⟨_, .or h k⟩
theorem name_no {s : Str} (h : nameOK s) {c : UInt8} (hc : c ∈ s) : c ≠ 32 ∧ c ≠ 40 ∧ c ≠ 41 := by
  have := h.1 c hc
  unfold globB partB at this
  refine ⟨?_, ?_, ?_⟩ <;> rintro rfl <;> revert this <;> decide
theorem mixAt {c d : UInt8} (hcd : c ≠ d) : ∀ (l m r s : Str), (∀ x ∈ l, x ≠ c ∧ x ≠ d) → (∀ x ∈ m, x ≠ c ∧ x ≠ d) → l ++ c :: r = m ++ d :: s → False
  | [], [], r, s, _, _, h => by simp at h; exact hcd h.1
  | [], b :: m, r, s, _, hb, h => by simp at h; exact (hb b (by simp)).1 h.1.symm
  | a :: l, [], r, s, ha, _, h => by simp at h; exact (ha a (by simp)).2 h.1
  | a :: l, b :: m, r, s, ha, hb, h => by
    simp only [List.cons_append, List.cons.injEq] at h
    exact mixAt hcd l m r s (fun x k => ha x (by simp [k])) (fun x k => hb x (by simp [k])) h.2
theorem PX.head {d : Nat} {p : api_Pred} {t : Str} (h : PX d p t) : ∃ c l, t = c :: l ∧ (c = 97 ∨ c = 116 ∨ c = 104 ∨ c = 40) := by
  cases h <;> exact ⟨_, _, rfl, by simp⟩
theorem nameVs {d : Nat} {p : api_Pred} {s t x z : Str} (hs : nameOK s) (h : PX d p t) (e : s ++ 32 :: x = t ++ 32 :: z) : x = z := by
  have hn : ∀ y ∈ s, y ≠ 32 ∧ y ≠ 40 := fun y hy => ⟨(name_no hs hy).1, (name_no hs hy).2.1⟩
  have h32 : (32 : UInt8) ∉ s := fun k => (hn _ k).1 rfl
  have par : ∀ (m q : Str), (∀ y ∈ m, y ≠ 32 ∧ y ≠ 40) → s ++ 32 :: x = m ++ 40 :: q → x = z := fun m q hm k => (mixAt (by decide) s m x q hn hm k).elim
  cases h with
  | all => exact (splitAt _ _ _ _ h32 (by decide) e).2
  | topic => exact par [116, 111, 112, 105, 99] _ (by decide) (by simpa using e)
  | has => exact par [104, 97, 115] _ (by decide) (by simpa using e)
  | eq => exact par [] _ (by simp) (by simpa using e)
  | lt => exact par [] _ (by simp) (by simpa using e)
  | not => exact par [] _ (by simp) (by simpa using e)
  | and => exact par [] _ (by simp) (by simpa using e)
  | or => exact par [] _ (by simp) (by simpa using e)
theorem notVs {d : Nat} {p : api_Pred} {t x y : Str} {c : UInt8} (h : PX d p t) (hc : c ≠ 97 ∧ c ≠ 116 ∧ c ≠ 104 ∧ c ≠ 40) (e : c :: x = t ++ y) : False := by
  obtain ⟨a, l, rfl, ha⟩ := h.head
  simp at e
  obtain ⟨rfl, _⟩ := e
  rcases ha with h | h | h | h
  · exact hc.1 h
  · exact hc.2.1 h
  · exact hc.2.2.1 h
  · exact hc.2.2.2 h
theorem nm32 {s : Str} (h : nameOK s) : (32 : UInt8) ∉ s := fun k => (name_no h k).1 rfl
theorem nm41 {s : Str} (h : nameOK s) : (41 : UInt8) ∉ s := fun k => (name_no h k).2.2 rfl
theorem PX.dec {d : Nat} {p : api_Pred} {t : Str} (h : PX d p t) : ∀ {e : Nat} {q : api_Pred} {u r s : Str}, PX e q u → t ++ r = u ++ s → p = q ∧ r = s := by
  induction h with
  | all =>
    intro e q u r s k h
    cases k with
    | all => simp at h; exact ⟨rfl, h⟩
    | _ => simp at h
  | topic h1 =>
    intro e q u r s k h
    cases k with
    | topic h2 =>
      simp at h
      obtain ⟨rfl, h'⟩ := splitAt _ _ _ _ (nm41 h1) (nm41 h2) h
      exact ⟨rfl, h'⟩
    | _ => simp at h
  | has h1 =>
    intro e q u r s k h
    cases k with
    | has h2 =>
      simp at h
      obtain ⟨rfl, h'⟩ := splitAt _ _ _ _ (nm41 h1) (nm41 h2) h
      exact ⟨rfl, h'⟩
    | _ => simp at h
  | eq h1 v1 =>
    intro e q u r s k h
    cases k with
    | eq h2 v2 =>
      simp at h
      obtain ⟨rfl, h⟩ := splitAt _ _ _ _ (nm32 h1) (nm32 h2) h
      simp at h
      obtain ⟨rfl, h'⟩ := vtextDec v1 v2 h
      exact ⟨rfl, h'⟩
    | lt h2 v2 =>
      simp at h
      obtain ⟨rfl, h⟩ := splitAt _ _ _ _ (nm32 h1) (nm32 h2) h
      simp at h
    | not k2 =>
      simp at h
      have h' := splitAt _ [110, 111, 116] _ _ (nm32 h1) (by decide) h
      exact (notVs k2 (by decide) h'.2).elim
    | and k2 k3 => simp at h; have := nameVs h1 k2 h; simp at this
    | or k2 k3 => simp at h; have := nameVs h1 k2 h; simp at this
    | _ => simp at h
  | lt h1 v1 =>
    intro e q u r s k h
    cases k with
    | eq h2 v2 =>
      simp at h
      obtain ⟨rfl, h⟩ := splitAt _ _ _ _ (nm32 h1) (nm32 h2) h
      simp at h
    | lt h2 v2 =>
      simp at h
      obtain ⟨rfl, h⟩ := splitAt _ _ _ _ (nm32 h1) (nm32 h2) h
      simp at h
      obtain ⟨rfl, h'⟩ := vtextDec v1 v2 h
      exact ⟨rfl, h'⟩
    | not k2 =>
      simp at h
      have h' := splitAt _ [110, 111, 116] _ _ (nm32 h1) (by decide) h
      exact (notVs k2 (by decide) h'.2).elim
    | and k2 k3 => simp at h; have := nameVs h1 k2 h; simp at this
    | or k2 k3 => simp at h; have := nameVs h1 k2 h; simp at this
    | _ => simp at h
  | not p1 ih =>
    intro e q u r s k h
    cases k with
    | eq h2 v2 =>
      simp at h
      have h' := splitAt [110, 111, 116] _ _ _ (by decide) (nm32 h2) h
      exact (notVs p1 (by decide) h'.2.symm).elim
    | lt h2 v2 =>
      simp at h
      have h' := splitAt [110, 111, 116] _ _ _ (by decide) (nm32 h2) h
      exact (notVs p1 (by decide) h'.2.symm).elim
    | not k2 =>
      simp at h
      obtain ⟨rfl, h⟩ := ih k2 h
      simp at h
      exact ⟨rfl, h⟩
    | and k2 k3 => simp at h; exact (notVs k2 (by decide) h).elim
    | or k2 k3 => simp at h; exact (notVs k2 (by decide) h).elim
    | _ => simp at h
  | and p1 p2 ih1 ih2 =>
    intro e q u r s k h
    cases k with
    | eq h2 v2 => simp at h; have := nameVs h2 p1 h.symm; simp at this
    | lt h2 v2 => simp at h; have := nameVs h2 p1 h.symm; simp at this
    | not k2 => simp at h; exact (notVs p1 (by decide) h.symm).elim
    | and k2 k3 =>
      simp at h
      obtain ⟨rfl, h⟩ := ih1 k2 h
      simp at h
      obtain ⟨rfl, h⟩ := ih2 k3 h
      simp at h
      exact ⟨rfl, h⟩
    | or k2 k3 =>
      simp at h
      obtain ⟨rfl, h⟩ := ih1 k2 h
      simp at h
    | _ => simp at h
  | or p1 p2 ih1 ih2 =>
    intro e q u r s k h
    cases k with
    | eq h2 v2 => simp at h; have := nameVs h2 p1 h.symm; simp at this
    | lt h2 v2 => simp at h; have := nameVs h2 p1 h.symm; simp at this
    | not k2 => simp at h; exact (notVs p1 (by decide) h.symm).elim
    | and k2 k3 =>
      simp at h
      obtain ⟨rfl, h⟩ := ih1 k2 h
      simp at h
    | or k2 k3 =>
      simp at h
      obtain ⟨rfl, h⟩ := ih1 k2 h
      simp at h
      obtain ⟨rfl, h⟩ := ih2 k3 h
      simp at h
      exact ⟨rfl, h⟩
    | _ => simp at h
theorem PX.fn {d e : Nat} {p : api_Pred} {t u : Str} (h : PX d p t) (k : PX e p u) : t = u := by
  induction h generalizing e u with
  | not _ ih => cases k with | not k => rw [ih k]
  | and _ _ ih1 ih2 => cases k with | and k1 k2 => rw [ih1 k1, ih2 k2]
  | or _ _ ih1 ih2 => cases k with | or k1 k2 => rw [ih1 k1, ih2 k2]
  | _ => cases k; rfl
theorem vtext_len {v : api_Value} (h : val_May v = true) (hi : inK .i64 v.N) : (vtext v).length ≤ 122 := by
  replace h := (valMay _).1 h
  unfold vtext
  have he : ∀ s : Str, (escL s).length ≤ 2 * s.length := fun s => by
    induction s with
    | nil => simp [escL]
    | cons c s ih =>
      have : escL (c :: s) = (if c = 34 ∨ c = 92 then [92, c] else [c]) ++ escL s := by simp [escL]
      rw [this, List.length_append]
      split <;> simp <;> omega
  split
  · have := Lib.itoa_length_le v.N (inK_i64.1 hi).1 (inK_i64.1 hi).2
    omega
  · have := he v.S
    rcases h with ⟨h1, h2⟩ | ⟨h1, h2, h3⟩
    · simp_all
    · simp; omega
theorem PX.len {N : Nat} {d : Nat} {p : api_Pred} {t : Str} (h : PX d p t) (ho : ok_Pred N p) : t.length + 200 ≤ 400 * 2 ^ d := by
  induction h with
  | all => rw [Nat.pow_succ]; have := Nat.one_le_two_pow (n := ‹Nat›); simp; omega
  | topic h => rename_i d s; rw [Nat.pow_succ]; have := Nat.one_le_two_pow (n := d); have := h.2; simp; omega
  | has h => rename_i d s; rw [Nat.pow_succ]; have := Nat.one_le_two_pow (n := d); have := h.2; simp; omega
  | eq h k => rename_i d s v; rw [Nat.pow_succ]; have := Nat.one_le_two_pow (n := d); have := h.2; have := vtext_len k ho.get.2.2.1.1; simp; omega
  | lt h k => rename_i d s v; rw [Nat.pow_succ]; have := Nat.one_le_two_pow (n := d); have := h.2; have := vtext_len k ho.get.2.2.1.1; simp; omega
  | not _ ih => rename_i d p t _; rw [Nat.pow_succ]; have := Nat.one_le_two_pow (n := d); have := ih (ho.get.2.2.2.2 _ (by simp)); simp; omega
  | and _ _ ih1 ih2 => rename_i d p q t u _ _; rw [Nat.pow_succ]; have := ih1 (ho.get.2.2.2.2 _ (by simp)); have := ih2 (ho.get.2.2.2.2 _ (by simp)); simp; omega
  | or _ _ ih1 ih2 => rename_i d p q t u _ _; rw [Nat.pow_succ]; have := ih1 (ho.get.2.2.2.2 _ (by simp)); have := ih2 (ho.get.2.2.2.2 _ (by simp)); simp; omega
end Go.Proofs
