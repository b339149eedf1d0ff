/- Own work: what is read as a predicate is written so. -/
import Derived.Test.YthdcblpadgdamaaGreatDoorTpCodec
set_option linter.all false
namespace Go.Proofs
open Go Go.Trw
/-- The text of a predicate, whatever its names are. -/
inductive PY : Nat → api_Pred → Str → Prop
  | all {d} : PY (d + 1) (.mk [97, 108, 108] [] z_api_Value []) [97, 108, 108]
  | topic {d s} : PY (d + 1) (.mk [116, 111, 112, 105, 99] s z_api_Value []) ([116, 111, 112, 105, 99, 40] ++ (s ++ [41]))
  | has {d s} : PY (d + 1) (.mk [104, 97, 115] s z_api_Value []) ([104, 97, 115, 40] ++ (s ++ [41]))
  | eq {d s v} : PY (d + 1) (.mk [101, 113] s v []) ([40] ++ (s ++ ([32, 61, 32] ++ (vtext v ++ [41]))))
  | lt {d s v} : PY (d + 1) (.mk [108, 116] s v []) ([40] ++ (s ++ ([32, 60, 32] ++ (vtext v ++ [41]))))
  | not {d p t} : PY d p t → PY (d + 1) (.mk [110, 111, 116] [] z_api_Value [p]) ([40, 110, 111, 116, 32] ++ (t ++ [41]))
  | and {d p q t u} : PY d p t → PY d q u → PY (d + 1) (.mk [97, 110, 100] [] z_api_Value [p, q]) ([40] ++ (t ++ ([32, 97, 110, 100, 32] ++ (u ++ [41]))))
  | or {d p q t u} : PY d p t → PY d q u → PY (d + 1) (.mk [111, 114] [] z_api_Value [p, q]) ([40] ++ (t ++ ([32, 111, 114, 32] ++ (u ++ [41]))))
theorem PY.px {d : Nat} {p : api_Pred} {t : Str} (h : PY d p t) : ∀ {e : Nat}, PV e p → PX e p t := by
  induction h with
  | all => intro e k; cases k; exact .all
  | topic => intro e k; cases k with | topic h => exact .topic h
  | has => intro e k; cases k with | has h => exact .has h
  | eq => intro e k; cases k with | eq h h2 => exact .eq h h2
  | lt => intro e k; cases k with | lt h h2 => exact .lt h h2
  | not _ ih => intro e k; cases k with | not h => exact .not (ih h)
  | and _ _ ih1 ih2 => intro e k; cases k with | and h h2 => exact .and (ih1 h) (ih2 h2)
  | or _ _ ih1 ih2 => intro e k; cases k with | or h h2 => exact .or (ih1 h) (ih2 h2)
theorem PY.ne {d : Nat} {p : api_Pred} {t : Str} (h : PY d p t) : t ≠ [] := by cases h <;> simp
/-! ### Texts -/
theorem hasPrefix_app {s p : Str} (h : Lib.hasPrefix s p = true) : s = p ++ s.drop p.length := by
  obtain ⟨t, rfl⟩ := List.isPrefixOf_iff_prefix.1 h
  simp
theorem take_snoc {s : Str} {n : Nat} (h : n < s.length) : s.take (n + 1) = s.take n ++ [s.getD n 0] := by
  rw [List.take_add_one, List.getD_eq_getElem?_getD, List.getElem?_eq_getElem h]; rfl
theorem stringsCut2 {s : Str} {c : UInt8} (h : s.length ≤ 16777216) : Tot (strings_Cut s [c]) (fun r => s = r.1 ++ (if r.2.2 then c :: r.2.1 else []) ∧ (r.2.2 = false → r.2.1 = [])) := by
  refine (Tot.and (P := fun r => r.2.2 = false → r.2.1 = []) ?_ (stringsCut h)).mono fun _ k => ⟨k.2, k.1⟩
  unfold strings_Cut
  rw [if_pos (by show s.length < 4294967281; omega)]
  refine Tot.ret ?_
  unfold Lib.cut
  split <;> simp
/-! ### Values -/
def intB (c : UInt8) : Int := (c.toNat : Int)
theorem bytesS_map (u : Str) : bytesS (u.map intB) = u := by
  unfold bytesS intB
  rw [List.map_map]
  conv => rhs; rw [← List.map_id u]
  congr 1
  funext c
  simp
theorem sAt_get {s : Str} {i : Nat} : sAt s (i : Int) = intB (s.getD i 0) := rfl
theorem escL_snoc (u : Str) (c : UInt8) : escL (u ++ [c]) = escL u ++ (if c = 34 ∨ c = 92 then [92, c] else [c]) := by simp [escL]
theorem intB_eq {c : UInt8} {n : Nat} (hn : n < 256) : intB c = (n : Int) ↔ c = UInt8.ofNat n := by
  unfold intB
  constructor
  · intro h
    have : c.toNat = n := by omega
    rw [← this]; simp
  · rintro rfl
    simp; omega
theorem valText {s : Str} (h : s.length ≤ 16777216) (h0 : s.take 1 = [34]) : Tot (val_text s) (fun r => r.2 ≠ 0 → 1 ≤ r.2 ∧ r.2 ≤ s.length ∧ s.take r.2.toNat = 34 :: (escL r.1 ++ [34])) := by
  unfold val_text
  refine Tot.gd (by omega) fun _ => ?_
  refine Tot.cut (fun e => ∀ r, e = Sum.inl r → r.2 ≠ 0 → 1 ≤ r.2 ∧ r.2 ≤ (s.length : Int) ∧ s.take r.2.toNat = 34 :: (escL r.1 ++ [34])) (Tot.loop (fun (i, b) => 1 ≤ i ∧ (i ≤ s.length) ∧ b.length ≤ 60 ∧ ∃ u : Str, b = u.map intB ∧ s.take i.toNat = 34 :: escL u) (fun (i, b) => (s.length - i).toNat) ?_ ?_) ?_
  · have : 1 ≤ s.length := by
      have := congrArg List.length h0
      simp at this; omega
    exact ⟨by omega, by omega, by simp, [], by simp, by simpa [escL] using h0⟩
  · rintro ⟨i, b⟩ ⟨h1, h2, h3, u, rfl, hu⟩
    dsimp only at h1 h2 h3 hu ⊢
    refine Tot.ite (fun c1 => ?_) (fun c1 => Tot.brk (fun r k => by cases k))
    have hi : i < s.length := by simpa using c1
    obtain ⟨n, rfl⟩ : ∃ n : Nat, i = (n : Int) := ⟨i.toNat, by omega⟩
    have hn : n < s.length := by omega
    have w1 : IntKind.i64.wrap ((n : Int) + 1) = ((n + 1 : Nat) : Int) := by rw [wrap64 (by omega) (by omega)]; omega
    refine Tot.gd (by omega) fun _ => ?_
    have hs1 := take_snoc hn
    simp only [w1]
    have hs := hu
    simp only [Int.toNat_natCast] at hs
    have hu34 : ∀ k : Nat, k < 256 → ((sAt s (n : Int) == (k : Int)) = true ↔ s.getD n 0 = UInt8.ofNat k) := fun k hk => by rw [sAt_get, beq_iff_eq, intB_eq hk]
    have e34 := hu34 34 (by omega)
    have e92 := hu34 92 (by omega)
    refine Tot.bind ?_
    refine Tot.ite (fun c2 => Tot.ret (Tot.brk ?_)) (fun c2 => ?_)
    · rintro r ⟨⟩ _
      have hc := e34.1 c2
      refine ⟨by omega, by omega, ?_⟩
      rw [bytesS_map, Int.toNat_natCast, hs1, hs, hc]; rfl
    have n34 : s.getD n 0 ≠ 34 := fun k => c2 (e34.2 k)
    have step : ∀ (m : Nat) (c : UInt8), n ≤ m → m < s.length → s.getD m 0 = c → s.take (m + 1) = 34 :: escL (u ++ [c]) →
        Tot (if ((List.length (u.map intB) : Int) == (60 : Int)) then (some (Sum.inr (Sum.inl (([] : Str), (0 : Int))))) else (if 0 ≤ (m : Int) ∧ (m : Int) < (List.length s : Int) then (if List.length (u.map intB) + List.length ([sAt s (m : Int)] : (List Int)) ≤ 16777216 then (some (Sum.inl (IntKind.i64.wrap ((m : Int) + (1 : Int)), (u.map intB) ++ ([sAt s (m : Int)] : (List Int))))) else none) else none) : Option ((Int × List Int) ⊕ ((Str × Int) ⊕ Unit)))
          (LQ (fun (i, b) => 1 ≤ i ∧ (i ≤ s.length) ∧ b.length ≤ 60 ∧ ∃ u : Str, b = u.map intB ∧ s.take i.toNat = 34 :: escL u) (fun (i, b) => (s.length - i).toNat) ((n : Int), u.map intB) (fun e => ∀ r, e = Sum.inl r → r.2 ≠ 0 → 1 ≤ r.2 ∧ r.2 ≤ (s.length : Int) ∧ s.take r.2.toNat = 34 :: (escL r.1 ++ [34]))) := fun m c hnm hm hc ht => by
      have hl : u.length ≤ 60 := by simpa using h3
      have w2 : IntKind.i64.wrap ((m : Int) + 1) = ((m + 1 : Nat) : Int) := by rw [wrap64 (by omega) (by omega)]; omega
      refine Tot.ite (fun c3 => Tot.brk (by rintro r ⟨⟩ k; exact absurd rfl k)) (fun c3 => ?_)
      have : u.length ≠ 60 := fun k => c3 (by simp [k])
      refine Tot.gd (by omega) fun _ => Tot.gd (by simp; omega) fun _ => ?_
      rw [w2]
      refine Tot.next ⟨by omega, by omega, by simp; omega, u ++ [c], by rw [sAt_get, hc]; simp, by rw [Int.toNat_natCast]; exact ht⟩ ?_
      show ((s.length : Int) - ((m + 1 : Nat) : Int)).toNat < ((s.length : Int) - (n : Int)).toNat
      omega
    refine Tot.ite (fun c3 => ?_) (fun c3 => ?_)
    · have hc := e92.1 c3
      by_cases hend : n + 1 = s.length
      · refine Tot.gd (fun k => by exfalso; simp at k; omega) fun _ => Tot.gd (fun k => by exfalso; simp at k; omega) fun _ => ?_
        rw [if_pos (by simp; omega)]
        exact Tot.ret (Tot.brk (by rintro r ⟨⟩ k; exact absurd rfl k))
      · have hn1 : n + 1 < s.length := by omega
        refine Tot.gd (fun _ => by omega) fun _ => Tot.gd (fun _ => by omega) fun _ => ?_
        have hu2 : ∀ k : Nat, k < 256 → ((sAt s ((n + 1 : Nat) : Int) == (k : Int)) = true ↔ s.getD (n + 1) 0 = UInt8.ofNat k) := fun k hk => by rw [sAt_get, beq_iff_eq, intB_eq hk]
        refine Tot.ite (fun c4 => Tot.ret (Tot.brk (by rintro r ⟨⟩ k; exact absurd rfl k))) (fun c4 => Tot.ret ?_)
        have hcc : s.getD (n + 1) 0 = 34 ∨ s.getD (n + 1) 0 = 92 := by
          rcases Decidable.em (s.getD (n + 1) 0 = 34) with k | k
          · exact .inl k
          · rcases Decidable.em (s.getD (n + 1) 0 = 92) with k2 | k2
            · exact .inr k2
            · exfalso
              apply c4
              have a1 := mt (hu2 34 (by omega)).1 k
              have a2 := mt (hu2 92 (by omega)).1 k2
              have b1 : (sAt s ((n + 1 : Nat) : Int) != (34 : Int)) = true := by simpa using a1
              have b2 : (sAt s ((n + 1 : Nat) : Int) != (92 : Int)) = true := by simpa using a2
              rw [b1, b2]; simp
        exact step (n + 1) _ (by omega) hn1 rfl (by
          rw [take_snoc hn1, hs1, hs, hc, escL_snoc, if_pos hcc]; simp)
    · have n92 : s.getD n 0 ≠ 92 := fun k => c3 (e92.2 k)
      refine Tot.ret ?_
      exact step n _ (Nat.le_refl _) hn rfl (by rw [hs1, hs, escL_snoc, if_neg (fun k => k.elim n34 n92)]; simp)
  · rintro (v | v) hv
    · exact Tot.ret (hv v rfl)
    · exact Tot.ret (fun k => absurd rfl k)
/-! ### Numbers -/
def digB (c : UInt8) : Prop := 48 ≤ c.toNat ∧ c.toNat ≤ 57
theorem decVal_snoc (l : Str) (c : UInt8) : decVal (l ++ [c]) = 10 * decVal l + (c.toNat - 48) := by simp [decVal]
theorem decVal_pos : ∀ {l : Str}, allB digB l → (∃ c t, l = c :: t ∧ c ≠ 48) → 1 ≤ decVal l := by
  intro l
  induction h : l.length generalizing l with
  | zero => rintro _ ⟨c, t, rfl, _⟩; simp at h
  | succ n ih =>
    rintro hd ⟨c, t, rfl, hc⟩
    rcases List.eq_nil_or_concat t with rfl | ⟨t', x, rfl⟩
    · have := hd c (by simp)
      have hne : c.toNat ≠ 48 := fun k => hc (by rw [← UInt8.toNat_inj]; exact k)
      unfold digB at this
      simp [decVal]; omega
    · rw [List.concat_eq_append] at *
      have e : c :: (t' ++ [x]) = (c :: t') ++ [x] := rfl
      rw [e, decVal_snoc]
      have := ih (l := c :: t') (by simp at h ⊢; omega) (fun y hy => hd y (by rw [e]; simp at hy ⊢; rcases hy with k | k <;> simp [k])) ⟨c, t', rfl, hc⟩
      omega
theorem digits_canon : ∀ {l : Str}, allB digB l → (∃ c t, l = c :: t ∧ c ≠ 48) → Lib.decDigits (decVal l) = l := by
  intro l
  induction h : l.length generalizing l with
  | zero => rintro _ ⟨c, t, rfl, _⟩; simp at h
  | succ n ih =>
    rintro hd ⟨c, t, rfl, hc⟩
    rcases List.eq_nil_or_concat t with rfl | ⟨t', x, rfl⟩
    · have := hd c (by simp)
      unfold digB at this
      have e1 : decVal [c] = c.toNat - 48 := by simp [decVal]
      rw [e1, Lib.decDigits_one (by omega), show 48 + (c.toNat - 48) = c.toNat by omega]; simp
    · rw [List.concat_eq_append] at *
      have e : c :: (t' ++ [x]) = (c :: t') ++ [x] := rfl
      have hd' : allB digB (c :: t') := fun y hy => hd y (by rw [e]; simp at hy ⊢; rcases hy with k | k <;> simp [k])
      have hx := hd x (by simp)
      unfold digB at hx
      have h1 := ih (l := c :: t') (by simp at h ⊢; omega) hd' ⟨c, t', rfl, hc⟩
      have h2 := decVal_pos hd' ⟨c, t', rfl, hc⟩
      rw [e, decVal_snoc, Lib.decDigits, dif_neg (by omega)]
      rw [show (10 * decVal (c :: t') + (x.toNat - 48)) / 10 = decVal (c :: t') by omega, show (10 * decVal (c :: t') + (x.toNat - 48)) % 10 = x.toNat - 48 by omega, h1, show 48 + (x.toNat - 48) = x.toNat by omega]
      simp
theorem digB_iff {s : Str} {n : Nat} : (decide ((sAt s (n : Int)) ≥ (48 : Int)) && decide ((sAt s (n : Int)) ≤ (57 : Int))) = true ↔ digB (s.getD n 0) := by
  rw [sAt_get]; unfold intB digB
  simp only [Bool.and_eq_true, decide_eq_true_eq]; omega
theorem valDigit {s : Str} (i : Nat) : Tot (val_number_1 (i : Int) s) (fun b => b = true ↔ (i < s.length ∧ digB (s.getD i 0))) := by
  unfold val_number_1
  refine Tot.gd (fun k => by simp at k; omega) fun _ => Tot.gd (fun k => by simp at k; omega) fun _ => Tot.ret ?_
  have := digB_iff (s := s) (n := i)
  simp only [Bool.and_eq_true, decide_eq_true_eq] at this ⊢
  constructor
  · rintro ⟨⟨h1, h2⟩, h3⟩; exact ⟨by omega, this.1 ⟨h2, h3⟩⟩
  · rintro ⟨h1, h2⟩; obtain ⟨a, b⟩ := this.2 h2; exact ⟨⟨by omega, a⟩, b⟩
theorem seg_snoc {s : Str} {a n : Nat} (ha : a ≤ n) (h : n < s.length) : (s.drop a).take (n + 1 - a) = (s.drop a).take (n - a) ++ [s.getD n 0] := by
  rw [show n + 1 - a = (n - a) + 1 by omega, take_snoc (by simp; omega)]
  congr 2
  rw [List.getD_eq_getElem?_getD, List.getD_eq_getElem?_getD, List.getElem?_drop]
  congr 2; omega
/-- The digits of a number that a text begins with. -/
theorem valNumberLoop {s : Str} (h : s.length ≤ 16777216) {a most : Nat} (ha : a < s.length) (hd : digB (s.getD a 0)) (hm : 9 ≤ most) (hm2 : most ≤ 9223372036854775808) :
    Tot (loopO (fun (s43 : (Int × Int)) => match s43 with | (v27, v28) => ((val_number_1 v27 s).bind fun x46 => (if x46 then (if 0 ≤ v27 ∧ v27 < (List.length s : Int) then (if (decide (v28 > (IntKind.u64.wrap (Int.tdiv (IntKind.u64.wrap ((most : Int) - (IntKind.u64.wrap (IntKind.u8.wrap ((sAt s v27) - (48 : Int)))))) (10 : Int))))) then (some (Sum.inr (v27, v28))) else (some (Sum.inl (IntKind.i64.wrap (v27 + (1 : Int)), IntKind.u64.wrap ((IntKind.u64.wrap (v28 * (10 : Int))) + (IntKind.u64.wrap (IntKind.u8.wrap ((sAt s v27) - (48 : Int))))))))) else none) else (some (Sum.inr (v27, v28))))) : (Int × Int) → Option ((Int × Int) ⊕ (Int × Int))) ((a : Int), (0 : Int)))
      (fun r => ∃ n : Nat, r.1 = (n : Int) ∧ a < n ∧ n ≤ s.length ∧ allB digB ((s.drop a).take (n - a)) ∧ r.2 = (decVal ((s.drop a).take (n - a)) : Int) ∧ decVal ((s.drop a).take (n - a)) ≤ most) := by
  refine Tot.loop (fun (i, v) => ∃ n : Nat, i = (n : Int) ∧ a ≤ n ∧ n ≤ s.length ∧ allB digB ((s.drop a).take (n - a)) ∧ v = (decVal ((s.drop a).take (n - a)) : Int) ∧ decVal ((s.drop a).take (n - a)) ≤ most) (fun (i, v) => (s.length - i).toNat) ?_ ?_
  · exact ⟨a, rfl, Nat.le_refl _, by omega, by simp [allB], by simp [decVal], by simp [decVal]⟩
  · rintro ⟨i, v⟩ ⟨n, rfl, h1, h2, h3, rfl, h4⟩
    dsimp only
    refine Tot.bind ((valDigit n).mono fun b hb => ?_)
    have w1 : n < s.length → IntKind.i64.wrap ((n : Int) + 1) = ((n + 1 : Nat) : Int) := fun _ => by rw [wrap64 (by omega) (by omega)]; omega
    have stop : (b = true → n ≠ a → False) → False → True := fun _ _ => trivial
    refine Tot.ite (fun c => ?_) (fun c => ?_)
    · obtain ⟨k1, k2⟩ := hb.1 c
      refine Tot.gd (by omega) fun _ => ?_
      unfold digB at k2
      have hu : ∀ x : Int, IntKind.u8.wrap x = x % 256 := fun x => by
        have := inK_wrap .u8 x
        simp [IntKind.wrap, IntKind.bits, IntKind.signed]
      have e1 : IntKind.u64.wrap (IntKind.u8.wrap (sAt s (n : Int) - 48)) = (((s.getD n 0).toNat - 48 : Nat) : Int) := by
        rw [sAt_get]; unfold intB
        rw [hu, wrapu64 (by omega) (by omega)]; omega
      rw [e1]
      have e2 : IntKind.u64.wrap ((most : Int) - (((s.getD n 0).toNat - 48 : Nat) : Int)) = ((most - ((s.getD n 0).toNat - 48) : Nat) : Int) := by rw [wrapu64 (by omega) (by omega)]; omega
      rw [e2]
      have e3 : IntKind.u64.wrap (Int.tdiv ((most - ((s.getD n 0).toNat - 48) : Nat) : Int) 10) = (((most - ((s.getD n 0).toNat - 48)) / 10 : Nat) : Int) := by
        have : Int.tdiv ((most - ((s.getD n 0).toNat - 48) : Nat) : Int) 10 = (((most - ((s.getD n 0).toNat - 48)) / 10 : Nat) : Int) := by
          rw [Int.tdiv_eq_ediv_of_nonneg (by omega)]; rfl
        rw [this, wrapu64 (by omega) (by omega)]
      rw [e3]
      refine Tot.ite (fun c2 => Tot.brk ?_) (fun c2 => ?_)
      · have hv : (most - ((s.getD n 0).toNat - 48)) / 10 < decVal ((s.drop a).take (n - a)) := by
          have := of_decide_eq_true c2
          omega
        refine ⟨n, rfl, ?_, h2, h3, rfl, h4⟩
        rcases Nat.lt_or_ge a n with k | k
        · exact k
        · have : n = a := by omega
          subst this
          simp [decVal] at hv
      · have hv : decVal ((s.drop a).take (n - a)) ≤ (most - ((s.getD n 0).toNat - 48)) / 10 := by
          have := mt decide_eq_true c2
          omega
        have e4 : decVal ((s.drop a).take (n + 1 - a)) = 10 * decVal ((s.drop a).take (n - a)) + ((s.getD n 0).toNat - 48) := by rw [seg_snoc h1 k1, decVal_snoc]
        have e5 : IntKind.u64.wrap (IntKind.u64.wrap ((decVal ((s.drop a).take (n - a)) : Int) * 10) + (((s.getD n 0).toNat - 48 : Nat) : Int)) = (decVal ((s.drop a).take (n + 1 - a)) : Int) := by
          rw [wrapu64 (n := (decVal ((s.drop a).take (n - a)) : Int) * 10) (by omega) (by omega), wrapu64 (by omega) (by omega)]; omega
        rw [e5, w1 k1]
        refine Tot.next ⟨n + 1, rfl, by omega, by omega, ?_, rfl, by omega⟩ ?_
        · rw [seg_snoc h1 k1]
          exact allB_app.2 ⟨h3, fun y hy => by simp at hy; subst hy; simpa [digB] using k2⟩
        · show ((s.length : Int) - ((n + 1 : Nat) : Int)).toNat < ((s.length : Int) - (n : Int)).toNat
          omega
    · refine Tot.brk ⟨n, rfl, ?_, h2, h3, rfl, h4⟩
      rcases Nat.lt_or_ge a n with k | k
      · exact k
      · have : n = a := by omega
        subst this
        exact absurd (hb.2 ⟨ha, hd⟩) c
end Go.Proofs
