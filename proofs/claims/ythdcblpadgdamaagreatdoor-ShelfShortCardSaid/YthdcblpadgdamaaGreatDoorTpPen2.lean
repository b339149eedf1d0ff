/- Own work: the pen lays a router's octets. -/
import Derived.Test.YthdcblpadgdamaaGreatDoorTpPen
set_option linter.all false
namespace Go.Proofs
open Go Go.Trw
theorem formatInt {n : Int} (h : inK .i64 n) : Tot (strconv_FormatInt n 10) (fun r => r = Lib.itoa n) := by
  have := Lib.itoa_length_le n (inK_i64.1 h).1 (inK_i64.1 h).2
  unfold strconv_FormatInt
  exact Tot.gd ⟨rfl, by unfold maxS; omega⟩ fun _ => Tot.ret rfl
theorem sAt_cases (s : Str) (i : Nat) (h : i < s.length) : sAt s i = (s[i].toNat : Int) := by
  unfold sAt
  rw [Int.toNat_natCast, List.getD_eq_getElem?_getD, List.getElem?_eq_getElem h]; rfl
theorem valWrite {v : api_Value} (h : val_May v = true) (hi : inK .i64 v.N) : Tot (val_Write v) (fun r => r = (vtext v, 0)) := by
  have hl := vtext_len h hi
  unfold val_Write
  rw [h]
  refine Tot.ite (fun c => by simp at c) fun _ => ?_
  unfold vtext at *
  refine Tot.ite (fun c => ?_) fun c => ?_
  · rw [if_pos c]
    exact Tot.bind ((formatInt hi).mono fun r hr => Tot.ret (by rw [hr]))
  rw [if_neg c] at *
  have hs : v.S.length ≤ 60 := by
    rcases (valMay _).1 h with h | h
    · exact absurd h.1 c
    · exact h.2.2
  have e1 : ∀ (c : UInt8) (s : Str), escL (c :: s) = (if c = 34 ∨ c = 92 then [92, c] else [c]) ++ escL s := fun c s => by simp [escL]
  refine Tot.bind (Tot.loop (fun (i, l) => 0 ≤ i ∧ i ≤ (v.S.length : Int) ∧ l.length ≤ 1 + 2 * i ∧ bytesS l ++ escL (v.S.drop i.toNat) = 34 :: escL v.S) (fun (i, l) => (v.S.length - i).toNat) ?_ ?_)
  · exact ⟨by omega, by omega, by simp, by simp [bytesS]⟩
  rintro ⟨i, l⟩ ⟨h0, h1, h2, h3⟩
  dsimp only
  refine Tot.ite (fun hc => Tot.gd (by simp at hc; omega) fun hi2 => ?_) (fun hc => Tot.brk (Tot.gd (by simp; omega) fun _ => Tot.ret ?_))
  · obtain ⟨k, rfl⟩ : ∃ k : Nat, i = k := ⟨i.toNat, by omega⟩
    have hk : k < v.S.length := by omega
    rw [Int.toNat_natCast, List.drop_eq_getElem_cons hk, e1] at h3
    rw [sAt_cases _ _ hk]
    have b1 : ∀ n : Nat, bytesS [(n : Int)] = [UInt8.ofNat n] := fun n => by simp [bytesS]
    have b2 : bytesS (l ++ [((v.S[k]).toNat : Int)]) = bytesS l ++ [v.S[k]] := by rw [bytesS_app]; simp
    have b3 : bytesS ((l ++ [(92 : Int)]) ++ [((v.S[k]).toNat : Int)]) = bytesS l ++ [92, v.S[k]] := by
      rw [bytesS_app, show (92 : Int) = ((92 : Nat) : Int) from rfl, bytesS_app]; simp
    have hm : ((((v.S[k]).toNat : Int) == 34) || (((v.S[k]).toNat : Int) == 92)) = true ↔ (v.S[k] = 34 ∨ v.S[k] = 92) := by
      simp only [Bool.or_eq_true, beq_iff_eq]
      constructor
      · rintro (h | h)
        · exact .inl (UInt8.toNat_inj.1 (by simpa using (by omega : (v.S[k]).toNat = 34)))
        · exact .inr (UInt8.toNat_inj.1 (by simpa using (by omega : (v.S[k]).toNat = 92)))
      · rintro (h | h) <;> rw [h] <;> simp
    refine Tot.gd (fun _ => ⟨by omega, by omega⟩) fun _ => Tot.ite (fun hx => ?_) fun hx => ?_
    · rw [hm] at hx
      rw [if_pos hx] at h3
      refine Tot.gd (by simp; omega) fun _ => Tot.gd (by omega) fun _ => Tot.gd (by simp; omega) fun _ => ?_
      rw [wrap64 (by omega) (by omega)]
      refine Tot.next ⟨by omega, by omega, by simp; omega, ?_⟩ (by dsimp only; omega)
      rw [b3, ← h3, show ((k : Int) + 1).toNat = k + 1 by omega, List.append_assoc]
    · rw [hm] at hx
      rw [if_neg hx] at h3
      refine Tot.gd (by omega) fun _ => Tot.gd (by simp; omega) fun _ => ?_
      rw [wrap64 (by omega) (by omega)]
      refine Tot.next ⟨by omega, by omega, by simp; omega, ?_⟩ (by dsimp only; omega)
      rw [b2, ← h3, show ((k : Int) + 1).toNat = k + 1 by omega, List.append_assoc]
  · simp at hc
    rw [List.drop_eq_nil_of_le (by omega)] at h3
    have : bytesS l = 34 :: escL v.S := by simpa [escL] using h3
    rw [show (34 : Int) = ((34 : Nat) : Int) from rfl, bytesS_app, this]
    simp
theorem predWrite {d : Nat} {p : api_Pred} {t : Str} (h : PX d p t) : ∀ {N n : Nat} {b : Str}, ok_Pred N p → d ≤ n → b.length + t.length ≤ 16777216 → Tot (pred_write_o0 n p b) (fun r => r = b ++ t) := by
  induction h with
  | all =>
    intro N n b ho hn hb
    obtain ⟨m, rfl⟩ : ∃ m, n = m + 1 := ⟨n - 1, by omega⟩
    rw [pred_write_o0.eq_2]
    simp (decide := true) only [PT.Op_mk, PT.S_mk, PT.V_mk, PT.L_mk, if_true, if_false, Option.bind_some, List.length_cons, List.length_nil, List.length_append]
    exact Tot.bind ((bldStr hb).mono fun r hr => Tot.ret hr)
  | topic h =>
    intro N n b ho hn hb
    obtain ⟨m, rfl⟩ : ∃ m, n = m + 1 := ⟨n - 1, by omega⟩
    rw [pred_write_o0.eq_2]
    simp (decide := true) only [PT.Op_mk, PT.S_mk, PT.V_mk, PT.L_mk, if_true, if_false, Option.bind_some, List.length_cons, List.length_nil, List.length_append]
    simp only [List.length_append, List.length_cons, List.length_nil] at hb
    repeat refine Tot.gd (by first | (unfold maxS; omega) | (dsimp only; unfold maxS; omega) | (simp; done)) fun _ => ?_
    refine Tot.bind ((bldStr (by simp; omega)).mono fun r hr => Tot.ret ?_)
    rw [hr]; simp
  | has h =>
    intro N n b ho hn hb
    obtain ⟨m, rfl⟩ : ∃ m, n = m + 1 := ⟨n - 1, by omega⟩
    rw [pred_write_o0.eq_2]
    simp (decide := true) only [PT.Op_mk, PT.S_mk, PT.V_mk, PT.L_mk, if_true, if_false, Option.bind_some, List.length_cons, List.length_nil, List.length_append]
    simp only [List.length_append, List.length_cons, List.length_nil] at hb
    repeat refine Tot.gd (by first | (unfold maxS; omega) | (dsimp only; unfold maxS; omega) | (simp; done)) fun _ => ?_
    refine Tot.bind ((bldStr (by simp; omega)).mono fun r hr => Tot.ret ?_)
    rw [hr]; simp
  | eq h k =>
    intro N n b ho hn hb
    obtain ⟨m, rfl⟩ : ∃ m, n = m + 1 := ⟨n - 1, by omega⟩
    rw [pred_write_o0.eq_2]
    simp (decide := true) only [PT.Op_mk, PT.S_mk, PT.V_mk, PT.L_mk, if_true, if_false, Option.bind_some, List.length_cons, List.length_nil, List.length_append]
    simp only [List.length_append, List.length_cons, List.length_nil] at hb
    refine Tot.bind ((valWrite k ho.get.2.2.1.1).mono fun r hr => ?_)
    subst hr
    repeat refine Tot.gd (by first | (unfold maxS; omega) | (dsimp only; unfold maxS; omega) | (simp; done)) fun _ => ?_
    refine Tot.bind ((bldStr (by simp; omega)).mono fun r hr => Tot.ret ?_)
    rw [hr]; simp
  | lt h k =>
    intro N n b ho hn hb
    obtain ⟨m, rfl⟩ : ∃ m, n = m + 1 := ⟨n - 1, by omega⟩
    rw [pred_write_o0.eq_2]
    simp (decide := true) only [PT.Op_mk, PT.S_mk, PT.V_mk, PT.L_mk, if_true, if_false, Option.bind_some, List.length_cons, List.length_nil, List.length_append]
    simp only [List.length_append, List.length_cons, List.length_nil] at hb
    refine Tot.bind ((valWrite k ho.get.2.2.1.1).mono fun r hr => ?_)
    subst hr
    repeat refine Tot.gd (by first | (unfold maxS; omega) | (dsimp only; unfold maxS; omega) | (simp; done)) fun _ => ?_
    refine Tot.bind ((bldStr (by simp; omega)).mono fun r hr => Tot.ret ?_)
    rw [hr]; simp
  | not p1 ih =>
    rename_i d p t
    intro N n b ho hn hb
    obtain ⟨m, rfl⟩ : ∃ m, n = m + 1 := ⟨n - 1, by omega⟩
    rw [pred_write_o0.eq_2]
    simp (decide := true) only [PT.Op_mk, PT.S_mk, PT.V_mk, PT.L_mk, if_true, if_false, Option.bind_some, List.length_cons, List.length_nil, List.length_append]
    simp only [List.length_append, List.length_cons, List.length_nil] at hb
    have hp := ho.get.2.2.2.2 p (by simp)
    refine Tot.bind ((bldStr (by simp; omega)).mono fun r hr => ?_)
    repeat refine Tot.gd (by first | (unfold maxS; omega) | (dsimp only; unfold maxS; omega) | (simp; done)) fun _ => ?_
    refine Tot.bind ((ih (n := m) hp (by omega) (by rw [hr]; simp; omega)).mono fun r2 hr2 => ?_)
    refine Tot.bind ((bldStr (by rw [hr2, hr]; simp; omega)).mono fun r3 hr3 => Tot.ret ?_)
    rw [hr3, hr2, hr]; simp
  | and p1 p2 ih1 ih2 =>
    rename_i d p q t u
    intro N n b ho hn hb
    obtain ⟨m, rfl⟩ : ∃ m, n = m + 1 := ⟨n - 1, by omega⟩
    rw [pred_write_o0.eq_2]
    simp (decide := true) only [PT.Op_mk, PT.S_mk, PT.V_mk, PT.L_mk, if_true, if_false, Option.bind_some, List.length_cons, List.length_nil, List.length_append]
    simp only [List.length_append, List.length_cons, List.length_nil] at hb
    have hp := ho.get.2.2.2.2 p (by simp)
    have hq := ho.get.2.2.2.2 q (by simp)
    refine Tot.bind ((bldStr (by simp; omega)).mono fun r hr => ?_)
    repeat refine Tot.gd (by first | (unfold maxS; omega) | (dsimp only; unfold maxS; omega) | (simp; done)) fun _ => ?_
    refine Tot.bind ((ih1 (n := m) hp (by omega) (by rw [hr]; simp; omega)).mono fun r2 hr2 => ?_)
    repeat refine Tot.gd (by first | (unfold maxS; omega) | (dsimp only; unfold maxS; omega) | (simp; done)) fun _ => ?_
    refine Tot.bind ((bldStr (by rw [hr2, hr]; simp; omega)).mono fun r3 hr3 => ?_)
    repeat refine Tot.gd (by first | (unfold maxS; omega) | (dsimp only; unfold maxS; omega) | (simp; done)) fun _ => ?_
    refine Tot.bind ((ih2 (n := m) hq (by omega) (by rw [hr3, hr2, hr]; simp; omega)).mono fun r4 hr4 => ?_)
    refine Tot.bind ((bldStr (by rw [hr4, hr3, hr2, hr]; simp; omega)).mono fun r5 hr5 => Tot.ret ?_)
    rw [hr5, hr4, hr3, hr2, hr]; simp
  | or p1 p2 ih1 ih2 =>
    rename_i d p q t u
    intro N n b ho hn hb
    obtain ⟨m, rfl⟩ : ∃ m, n = m + 1 := ⟨n - 1, by omega⟩
    rw [pred_write_o0.eq_2]
    simp (decide := true) only [PT.Op_mk, PT.S_mk, PT.V_mk, PT.L_mk, if_true, if_false, Option.bind_some, List.length_cons, List.length_nil, List.length_append]
    simp only [List.length_append, List.length_cons, List.length_nil] at hb
    have hp := ho.get.2.2.2.2 p (by simp)
    have hq := ho.get.2.2.2.2 q (by simp)
    refine Tot.bind ((bldStr (by simp; omega)).mono fun r hr => ?_)
    repeat refine Tot.gd (by first | (unfold maxS; omega) | (dsimp only; unfold maxS; omega) | (simp; done)) fun _ => ?_
    refine Tot.bind ((ih1 (n := m) hp (by omega) (by rw [hr]; simp; omega)).mono fun r2 hr2 => ?_)
    repeat refine Tot.gd (by first | (unfold maxS; omega) | (dsimp only; unfold maxS; omega) | (simp; done)) fun _ => ?_
    refine Tot.bind ((bldStr (by rw [hr2, hr]; simp; omega)).mono fun r3 hr3 => ?_)
    repeat refine Tot.gd (by first | (unfold maxS; omega) | (dsimp only; unfold maxS; omega) | (simp; done)) fun _ => ?_
    refine Tot.bind ((ih2 (n := m) hq (by omega) (by rw [hr3, hr2, hr]; simp; omega)).mono fun r4 hr4 => ?_)
    refine Tot.bind ((bldStr (by rw [hr4, hr3, hr2, hr]; simp; omega)).mono fun r5 hr5 => Tot.ret ?_)
    rw [hr5, hr4, hr3, hr2, hr]; simp
theorem bldGet {b : Str} (h0 : 1 ≤ b.length) (h : b.length ≤ 16777216) : Tot (strings_Builder_String b) (fun r => r = b) := by
  unfold strings_Builder_String
  exact Tot.gd ⟨fun e => by rw [e] at h0; simp at h0, h⟩ fun _ => Tot.ret rfl
theorem PX.pos {d : Nat} {p : api_Pred} {t : Str} (h : PX d p t) : 1 ≤ t.length := by
  obtain ⟨c, l, rfl, _⟩ := h.head; simp
theorem PX.len8 {N : Nat} {p : api_Pred} {t : Str} (h : PX 8 p t) (ho : ok_Pred N p) : t.length ≤ 102400 := by have := h.len ho; omega
theorem predText {N : Nat} {p : api_Pred} (h : PM p) (ho : ok_Pred N p) : Tot (pred_Text p) (fun r => r = (predT p, 0)) := by
  have hp := predT_px h.pv
  have hl := hp.len8 ho
  unfold pred_Text
  rw [show pred_May p = some true from h]
  refine Tot.bind (Tot.ret ?_)
  refine Tot.ite (fun c => by simp at c) fun _ => ?_
  refine Tot.bind ((predWrite hp (n := FUEL) (b := []) ho (by unfold FUEL; omega) (by simp; omega)).mono fun r hr => ?_)
  have hr' : r = predT p := by simpa using hr
  subst hr'
  exact Tot.bind ((bldGet hp.pos (by omega)).mono fun r hr => Tot.ret (by rw [hr]))
theorem penWhere {N : Nat} {p : api_Pred} {b : Str} (h : PM p) (ho : ok_Pred N p) (hb : b.length + (whereL p).length ≤ 16777216) : Tot (shelf_pen_where_o0 p b) (fun r => r = b ++ whereL p) := by
  unfold shelf_pen_where_o0
  refine Tot.bind ((predText h ho).mono fun r hr => ?_)
  subst hr
  exact Tot.bind ((penText hb).mono fun r hr => Tot.ret hr)
end Go.Proofs
