/- Own work: what is read as a predicate is written so: numbers, values, the parser. -/
import Derived.Test.YthdcblpadgdamaaGreatDoorTpParse
import Derived.Test.YthdcblpadgdamaaGreatDoorTpLaid
set_option linter.all false
namespace Go.Proofs
open Go Go.Trw
theorem wrapNeg {v : Nat} (h1 : v ≤ 9223372036854775808) : IntKind.i64.wrap (0 - IntKind.i64.wrap (v : Int)) = -(v : Int) := by
  rcases Nat.lt_or_ge v 9223372036854775808 with k | k
  · rw [wrap64 (n := (v : Int)) (by omega) (by omega), wrap64 (by omega) (by omega)]; omega
  · have : v = 9223372036854775808 := by omega
    subst this; decide
theorem valNumber {s : Str} (h : s.length ≤ 16777216) : Tot (val_number s) (fun r => inK .i64 r.1 ∧ (r.2 = 0 ∨ (1 ≤ r.2 ∧ r.2 ≤ (s.length : Int) ∧ s = Lib.itoa r.1 ++ s.drop r.2.toNat))) := by
  unfold val_number
  obtain ⟨neg, hneg⟩ : ∃ b, strings_HasPrefix s [45] = b := ⟨_, rfl⟩
  rw [hneg]
  refine Tot.cut (fun p => ∃ a most : Nat, p = ((a : Int), (most : Int)) ∧ 9 ≤ most ∧ most ≤ 9223372036854775808 ∧ ((neg = true → a = 1) ∧ (neg = false → a = 0 ∧ most = 9223372036854775807))) ?_ ?_
  · cases neg
    · exact Tot.ite (fun c => by cases c) fun _ => Tot.ret ⟨0, 9223372036854775807, rfl, by omega, by omega, ⟨fun c => (by cases c), fun _ => ⟨rfl, rfl⟩⟩⟩
    · exact Tot.ite (fun _ => Tot.ret ⟨1, 9223372036854775808, rfl, by omega, by omega, ⟨fun _ => rfl, fun c => (by cases c)⟩⟩) fun c => absurd rfl c
  rintro _ ⟨a, most, rfl, hm1, hm2, hn1, hn0⟩
  dsimp only
  refine Tot.bind ((valDigit a).mono fun b hb => ?_)
  have hlt : b = true → a < s.length := fun k => (hb.1 k).1
  have hz : inK .i64 0 := by decide
  refine Tot.gd (fun k => by have := hlt (by simpa using k.1); omega) fun _ => ?_
  refine Tot.ite (fun c => Tot.ret ⟨hz, .inl rfl⟩) fun c => ?_
  have hbt : b = true := by cases b <;> simp at c ⊢
  obtain ⟨ha, hd⟩ := hb.1 hbt
  refine Tot.gd (by omega) fun _ => ?_
  have e48 : (sAt s (a : Int) == (48 : Int)) = true ↔ s.getD a 0 = 48 := by rw [sAt_get, beq_iff_eq]; exact intB_eq (n := 48) (by omega)
  have hpre : neg = true → s = 45 :: s.drop 1 := fun k => by
    have := hasPrefix_app (s := s) (p := [45]) (by rw [← k, ← hneg]; rfl)
    simpa using this
  have hdrop : s.drop a = s.getD a 0 :: s.drop (a + 1) := by
    rw [List.drop_eq_getElem_cons ha, List.getD_eq_getElem?_getD, List.getElem?_eq_getElem ha]; rfl
  refine Tot.ite (fun c2 => Tot.ret ⟨hz, .inr ⟨by omega, by omega, ?_⟩⟩) fun c2 => ?_
  · have hnf : neg = false := by
      cases neg
      · rfl
      · exfalso; apply c; rw [c2]; simp
    have ha0 := (hn0 hnf).1
    subst ha0
    rw [e48.1 c2] at hdrop
    rw [List.drop_zero] at hdrop
    have e : Lib.itoa 0 = [48] := by
      unfold Lib.itoa; rw [if_neg (by omega)]; exact Lib.decDigits_one (by decide)
    rw [e]; exact hdrop
  have hne : s.getD a 0 ≠ 48 := fun k => c2 (e48.2 k)
  refine Tot.bind ((valNumberLoop h ha hd hm1 hm2).mono fun r hr => ?_)
  obtain ⟨n, h1, h2, h3, h4, h5, h6⟩ := hr
  obtain ⟨i, v⟩ := r
  dsimp only at h1 h5 ⊢
  subst h1 h5
  have hhead : ∃ x t, (s.drop a).take (n - a) = x :: t ∧ x ≠ 48 := by
    rw [hdrop, show n - a = (n - a - 1) + 1 by omega, List.take_succ_cons]
    exact ⟨_, _, rfl, hne⟩
  have hD := digits_canon h4 hhead
  have hP := decVal_pos h4 hhead
  have hcat : s.drop a = (s.drop a).take (n - a) ++ s.drop n := by
    have := (List.take_append_drop (n - a) (s.drop a)).symm
    rwa [List.drop_drop, show a + (n - a) = n by omega] at this
  generalize hg : (s.drop a).take (n - a) = g at *
  refine Tot.ite (fun c3 => Tot.ret ⟨inK_wrap _ _, .inr ⟨by omega, by omega, ?_⟩⟩) fun c3 => Tot.ret ⟨inK_wrap _ _, .inr ⟨by omega, by omega, ?_⟩⟩
  · have ha1 := hn1 c3
    subst ha1
    dsimp only
    rw [wrapNeg (by omega)]
    have e : Lib.itoa (-(decVal g : Int)) = 45 :: g := by
      unfold Lib.itoa; rw [if_pos (by omega), Int.natAbs_neg, Int.natAbs_natCast, hD]
    rw [e, Int.toNat_natCast, List.cons_append, ← hcat]; exact hpre c3
  · have hnf : neg = false := by simpa using c3
    obtain ⟨ha0, hm⟩ := hn0 hnf
    subst ha0
    dsimp only
    rw [wrap64 (by omega) (by omega)]
    have e : Lib.itoa (decVal g : Int) = g := by
      unfold Lib.itoa; rw [if_neg (by omega), Int.toNat_natCast, hD]
    rw [e, Int.toNat_natCast, ← hcat, List.drop_zero]
theorem escL_ge (s : Str) : s.length ≤ (escL s).length := by
  induction s with
  | nil => simp
  | cons c s ih =>
    have e1 : escL (c :: s) = (if c = 34 ∨ c = 92 then [92, c] else [c]) ++ escL s := by simp [escL]
    rw [e1, List.length_append]
    split <;> simp <;> omega
theorem valRead {s : Str} (h : s.length ≤ 16777216) : Tot (val_Read s) (fun r => r.2.2 = 0 → ok_Value 16777216 r.1 ∧ 0 ≤ r.2.1 ∧ r.2.1 ≤ (s.length : Int) ∧ s = vtext r.1 ++ s.drop r.2.1.toNat) := by
  unfold val_Read
  have hz : inK .i64 0 := by decide
  refine Tot.cut (fun e => e.1 ≠ 0 → ok_Value 16777216 e.2 ∧ 0 ≤ e.1 ∧ e.1 ≤ (s.length : Int) ∧ s = vtext e.2 ++ s.drop e.1.toNat) ?_ ?_
  · refine Tot.ite (fun c => ?_) fun c => ?_
    · have h0 : s.take 1 = [34] := by
        have := hasPrefix_app (s := s) (p := [34]) c
        rw [this]; simp
      refine Tot.bind ((valText h h0).mono fun r hr => Tot.ret fun k => ?_)
      obtain ⟨h1, h2, h3⟩ := hr k
      refine ⟨⟨hz, ?_⟩, by show 0 ≤ r.2; omega, h2, ?_⟩
      · show r.1.length ≤ _
        have := congrArg List.length h3
        have := escL_ge r.1
        simp at *; omega
      · show s = (34 :: (escL r.1 ++ [34])) ++ s.drop r.2.toNat
        rw [← h3, List.take_append_drop]
    · refine Tot.bind ((valNumber h).mono fun r hr => Tot.ret fun k => ?_)
      rcases hr.2 with h1 | ⟨h1, h2, h3⟩
      · exact absurd h1 k
      · exact ⟨⟨hr.1, Nat.zero_le _⟩, by show 0 ≤ r.2; omega, h2, h3⟩
  · rintro ⟨a, v⟩ hv
    dsimp only at hv ⊢
    refine Tot.ite (fun c => Tot.ret fun k => by cases k) fun c => Tot.ret fun _ => ?_
    exact hv (by simpa using c)
/-! ### The parser -/
theorem skip_cases (a : Str) (o : pred_parser) : ((pred_parser_skip_o0 a o).1 = true ∧ o.s_ = a ++ (pred_parser_skip_o0 a o).2.s_ ∧ (pred_parser_skip_o0 a o).2.nodes_ = o.nodes_) ∨ ((pred_parser_skip_o0 a o).1 = false ∧ (pred_parser_skip_o0 a o).2 = o) := by
  unfold pred_parser_skip_o0 strings_CutPrefix
  by_cases c : Lib.hasPrefix o.s_ a = true
  · left
    have := hasPrefix_app c
    simp [Lib.trimPrefix, c]
    exact this
  · right
    simp [Lib.trimPrefix, c]
theorem parserNamed {op : Str} {o : pred_parser} (h : o.s_.length ≤ 16777216) : Tot (pred_parser_named_o0 op o) (fun r => ∃ s, r.1 = .mk op s z_api_Value [] ∧ s.length ≤ 16777216 ∧ r.2.2.nodes_ = o.nodes_ ∧ r.2.2.s_.length ≤ o.s_.length ∧ (r.2.1 = true → o.s_ = s ++ 41 :: r.2.2.s_)) := by
  unfold pred_parser_named_o0
  refine Tot.bind ((stringsCut2 h).mono fun r hr => Tot.ret ?_)
  obtain ⟨h1, h2⟩ := hr
  have hl := congrArg List.length h1
  rw [List.length_append] at hl
  refine ⟨r.1, rfl, by omega, rfl, ?_, fun k => ?_⟩
  · show r.2.1.length ≤ _
    by_cases k : r.2.2 = true
    · rw [k] at hl; simp at hl; omega
    · rw [h2 (by simpa using k)]; simp
  · have k : r.2.2 = true := k
    rw [k] at h1; simpa using h1
theorem parserCompared {op nm tx : Str} {o : pred_parser} (h : tx.length ≤ 16777216) (ho : tx.length ≤ o.s_.length) : Tot (pred_parser_compared_o0 op nm tx o) (fun r => r.2.2.nodes_ = o.nodes_ ∧ r.2.2.s_.length ≤ o.s_.length ∧ (r.2.1 = true → ∃ v, r.1 = .mk op nm v [] ∧ ok_Value 16777216 v ∧ tx = vtext v ++ 41 :: r.2.2.s_)) := by
  unfold pred_parser_compared_o0
  refine Tot.bind ((valRead h).mono fun r hr => ?_)
  refine Tot.ite (fun c => Tot.ret ⟨rfl, Nat.le_refl _, fun k => by cases k⟩) fun c => ?_
  obtain ⟨h1, h2, h3, h4⟩ := hr (by simpa using c)
  refine Tot.gd ⟨h2, h3⟩ fun _ => Tot.ret ?_
  dsimp only
  rcases skip_cases [41] { o with s_ := List.drop (Int.toNat r.2.1) tx } with ⟨a1, a2, a3⟩ | ⟨a1, a2⟩
  · refine ⟨a3, ?_, fun _ => ⟨r.1, rfl, h1, ?_⟩⟩
    · have := congrArg List.length a2
      simp at this; omega
    · dsimp only at a2
      rw [a2] at h4; simpa using h4
  · rw [a1, a2]
    exact ⟨rfl, by simp; omega, fun k => by cases k⟩
def PQ (d : Nat) (o : pred_parser) (pre : Str) (r : api_Pred × Bool × pred_parser) : Prop :=
  r.2.2.s_.length ≤ o.s_.length ∧ o.nodes_ ≤ r.2.2.nodes_ ∧ r.2.2.nodes_ ≤ 41 ∧ (r.2.1 = true → r.2.2.nodes_ ≤ 40 ∧ ok_Pred 16777216 r.1 ∧ ∃ t, PY d r.1 t ∧ pre ++ o.s_ = t ++ r.2.2.s_)
theorem okZ : ok_Value 16777216 z_api_Value := ⟨by decide, Nat.zero_le _⟩
theorem skipEnd {d : Nat} {p : api_Pred} {o q : pred_parser} {pre u : Str} (hl : q.s_.length ≤ o.s_.length) (hn : o.nodes_ ≤ q.nodes_) (hm : q.nodes_ ≤ 40) (ok : ok_Pred 16777216 p) (py : PY d p (u ++ [41])) (e : pre ++ o.s_ = u ++ q.s_) : PQ d o pre (p, (pred_parser_skip_o0 [41] q).1, (pred_parser_skip_o0 [41] q).2) := by
  rcases skip_cases [41] q with ⟨a1, a2, a3⟩ | ⟨a1, a2⟩
  · have := congrArg List.length a2
    simp at this
    refine ⟨by dsimp only; omega, by dsimp only; omega, by dsimp only; omega, fun _ => ⟨by dsimp only; omega, ok, _, py, ?_⟩⟩
    rw [e, a2]; simp
  · rw [a1, a2]
    exact ⟨hl, hn, by dsimp only; omega, fun k => by cases k⟩
theorem parserInner {rec_ : Int → pred_parser → Option (api_Pred × Bool × pred_parser)} {a : Int} {d : Nat} (H : ∀ o : pred_parser, 0 ≤ o.nodes_ → o.nodes_ ≤ 40 → o.s_.length ≤ 16777216 → Tot (rec_ a o) (PQ d o [])) {o : pred_parser} (h0 : 0 ≤ o.nodes_) (h1 : o.nodes_ ≤ 40) (h2 : o.s_.length ≤ 16777216) : Tot (pred_parser_inner_o0 rec_ a o) (PQ (d + 1) o [40]) := by
  unfold pred_parser_inner_o0
  refine Tot.bind ((stringsCut2 h2).mono fun x1 hx1 => ?_)
  obtain ⟨c1, c2⟩ := hx1
  have hl := congrArg List.length c1
  rw [List.length_append] at hl
  have hs : x1.2.1 ≠ [] → o.s_ = x1.1 ++ 32 :: x1.2.1 := fun k => by
    cases hb : x1.2.2 with
    | true => rw [hb] at c1; simpa using c1
    | false => exact absurd (c2 hb) k
  have hl2 : x1.2.1.length ≤ o.s_.length := by
    by_cases k : x1.2.1 = []
    · rw [k]; simp
    · have := congrArg List.length (hs k); simp at this; omega
  have hN : x1.1.length ≤ 16777216 := by omega
  refine Tot.bind (eventField.mono fun x3 _ => ?_)
  have cmp : ∀ (op tag : Str), op.length ≤ 16777216 → tag.length = 2 → (∀ v, PY (d + 1) (.mk op x1.1 v []) ([40] ++ (x1.1 ++ ([32] ++ (tag ++ (vtext v ++ [41])))))) → strings_HasPrefix x1.2.1 tag = true →
      Tot (pred_parser_compared_o0 op x1.1 (List.drop (Int.toNat (2 : Int)) x1.2.1) o) (PQ (d + 1) o [40]) := fun op tag ho ht hy hp => by
    have hpre := hasPrefix_app (s := x1.2.1) (p := tag) hp
    have hne : x1.2.1 ≠ [] := fun k => by
      have := congrArg List.length hpre
      rw [k] at this; simp at this; omega
    rw [ht] at hpre
    refine (parserCompared (by simp; omega) (by simp; omega)).mono fun r hr => ?_
    obtain ⟨r1, r2, r3⟩ := hr
    refine ⟨r2, by omega, by omega, fun k => ?_⟩
    obtain ⟨v, e1, e2, e3⟩ := r3 k
    refine ⟨by omega, ?_, _, by rw [e1]; exact hy v, ?_⟩
    · rw [e1]; exact .mk ho hN e2 (by simp) (fun x hx => by cases hx)
    · have e3' : List.drop 2 x1.2.1 = vtext v ++ 41 :: r.2.2.s_ := e3
      rw [hs hne, hpre, e3']; simp
  have hlen : ∀ tag : Str, tag.length = 2 → strings_HasPrefix x1.2.1 tag = true → 2 ≤ x1.2.1.length := fun tag ht hp => by
    have := congrArg List.length (hasPrefix_app (s := x1.2.1) (p := tag) hp)
    rw [List.length_append] at this; omega
  refine Tot.cut (fun e => ∀ r, e = Sum.inl r → PQ (d + 1) o [40] r) ?_ ?_
  · refine Tot.ite (fun _ => ?_) fun _ => Tot.ret (fun r k => by cases k)
    refine Tot.ite (fun k => ?_) fun _ => ?_
    · refine Tot.gd (by have := hlen _ rfl k; omega) fun _ => ?_
      refine Tot.bind ((cmp _ [61, 32] (by simp) rfl (fun v => .eq) k).mono fun r hr => Tot.ret ?_)
      rintro _ ⟨⟩; exact hr
    refine Tot.ite (fun k => ?_) fun _ => ?_
    · refine Tot.gd (by have := hlen _ rfl k; omega) fun _ => ?_
      refine Tot.bind ((cmp _ [60, 32] (by simp) rfl (fun v => .lt) k).mono fun r hr => Tot.ret ?_)
      rintro _ ⟨⟩; exact hr
    refine Tot.ite (fun k => ?_) fun _ => Tot.ret (fun r k => by cases k)
    have hnot : x1.1 = [110, 111, 116] := by simpa using k
    refine Tot.bind ((H { o with s_ := x1.2.1 } h0 h1 (by show x1.2.1.length ≤ _; omega)).mono fun r hr => ?_)
    obtain ⟨r1, r2, r3, r4⟩ := hr
    dsimp only at r1 r2
    refine Tot.ite (fun k2 => Tot.ret ?_) fun k2 => Tot.ret ?_
    · rintro _ ⟨⟩
      obtain ⟨r5, r6, t, r7, r8⟩ := r4 k2
      have r8 : x1.2.1 = t ++ r.2.2.s_ := r8
      have hne : x1.2.1 ≠ [] := fun k => by
        rw [r8] at k
        exact r7.ne (List.append_eq_nil_iff.1 k).1
      refine skipEnd (u := [40, 110, 111, 116, 32] ++ t) (by omega) r2 r5 ?_ (by rw [List.append_assoc]; exact .not r7) ?_
      · exact .mk (by simp [okS]) (by simp [okS]) okZ (by simp) (fun x hx => by simp at hx; subst hx; exact r6)
      · rw [hs hne, hnot, r8]; simp
    · rintro _ ⟨⟩
      exact ⟨by dsimp only; omega, r2, r3, fun k => by cases k⟩
  rintro (r | u) hr
  · exact Tot.ret (hr r rfl)
  dsimp only
  refine Tot.bind ((H o h0 h1 h2).mono fun x21 h21 => ?_)
  obtain ⟨l1, n1, n2, k1⟩ := h21
  refine Tot.ite (fun c => Tot.ret ⟨l1, n1, n2, fun k => by cases k⟩) fun c => ?_
  obtain ⟨n3, ok1, t, py1, e1⟩ := k1 (by simpa using c)
  refine Tot.cut (fun e => (∃ q : pred_parser, e = Sum.inl (z_api_Pred, false, q) ∧ q.s_.length ≤ x21.2.2.s_.length ∧ q.nodes_ = x21.2.2.nodes_) ∨ (∃ (w : Str) (q : pred_parser), e = Sum.inr (w, q) ∧ q.nodes_ = x21.2.2.nodes_ ∧ ((w = [97, 110, 100] ∧ x21.2.2.s_ = [32, 97, 110, 100, 32] ++ q.s_) ∨ (w = [111, 114] ∧ x21.2.2.s_ = [32, 111, 114, 32] ++ q.s_)))) ?_ ?_
  · rcases skip_cases [32, 97, 110, 100, 32] x21.2.2 with ⟨a1, a2, a3⟩ | ⟨a1, a2⟩
    · simp only [a1]
      exact Tot.ite (fun c => by simp at c) fun _ => Tot.ret (.inr ⟨_, _, rfl, a3, .inl ⟨rfl, a2⟩⟩)
    · simp only [a1, a2]
      refine Tot.ite (fun _ => ?_) (fun c => by simp at c)
      rcases skip_cases [32, 111, 114, 32] x21.2.2 with ⟨b1, b2, b3⟩ | ⟨b1, b2⟩
      · simp only [b1]
        exact Tot.ite (fun c => by simp at c) fun _ => Tot.ret (.inr ⟨_, _, rfl, b3, .inr ⟨rfl, b2⟩⟩)
      · simp only [b1, b2]
        exact Tot.ite (fun _ => Tot.ret (.inl ⟨_, rfl, Nat.le_refl _, rfl⟩)) (fun c => by simp at c)
  rintro _ (⟨q, rfl, q1, q2⟩ | ⟨w, q, rfl, q1, q2⟩)
  · exact Tot.ret ⟨by dsimp only; omega, by dsimp only; omega, by dsimp only; omega, fun k => by cases k⟩
  dsimp only
  have ql : q.s_.length ≤ x21.2.2.s_.length := by
    rcases q2 with ⟨_, e⟩ | ⟨_, e⟩ <;> (rw [e]; simp; omega)
  refine Tot.bind ((H q (by omega) (by omega) (by omega)).mono fun x31 h31 => ?_)
  obtain ⟨l2, n4, n5, k2⟩ := h31
  refine Tot.ite (fun c => Tot.ret ?_) fun c => Tot.ret ⟨by dsimp only; omega, by dsimp only; omega, n5, fun k => by cases k⟩
  obtain ⟨n6, ok2, u, py2, e2⟩ := k2 c
  rw [List.nil_append] at e1 e2
  have hwl : w.length ≤ 16777216 := by rcases q2 with ⟨rfl, _⟩ | ⟨rfl, _⟩ <;> simp
  refine skipEnd (u := [40] ++ (t ++ (32 :: (w ++ (32 :: u))))) (by omega) (by omega) n6 ?_ ?_ ?_
  · exact .mk hwl (by simp [okS]) okZ (by simp) (fun x hx => by simp at hx; rcases hx with rfl | rfl; exact ok1; exact ok2)
  · rcases q2 with ⟨rfl, _⟩ | ⟨rfl, _⟩
    · simpa using PY.and py1 py2
    · simpa using PY.or py1 py2
  · rw [e1]
    rcases q2 with ⟨rfl, e⟩ | ⟨rfl, e⟩ <;> (rw [e, e2]; simp)
theorem parserPred : ∀ (n : Nat) (a : Int) (o : pred_parser), 0 ≤ a → a ≤ 8 → a < n → 0 ≤ o.nodes_ → o.nodes_ ≤ 40 → o.s_.length ≤ 16777216 → Tot (pred_parser_pred_o0 n a o) (PQ a.toNat o []) := by
  intro n
  induction n with
  | zero => intros; omega
  | succ n ih =>
    intro a o h0 h1 h2 h3 h4 h5
    unfold pred_parser_pred_o0
    have hw : IntKind.i64.wrap (o.nodes_ + 1) = o.nodes_ + 1 := wrap64 (by omega) (by omega)
    rw [hw]
    refine Tot.ite (fun _ => Tot.ret ⟨Nat.le_refl _, by dsimp only; omega, by dsimp only; omega, fun k => by cases k⟩) fun c => ?_
    have hr : 1 ≤ a ∧ o.nodes_ + 1 ≤ 40 := by simp at c; omega
    obtain ⟨d, hd⟩ : ∃ d, a.toNat = d + 1 := ⟨a.toNat - 1, by omega⟩
    rw [hd]
    obtain ⟨o1, ho1⟩ : ∃ o1 : pred_parser, o1 = { o with nodes_ := o.nodes_ + 1 } := ⟨_, rfl⟩
    rw [← ho1]
    have hs : o1.s_ = o.s_ := by rw [ho1]
    have hsl : o1.s_.length = o.s_.length := by rw [hs]
    have hn : o1.nodes_ = o.nodes_ + 1 := by rw [ho1]
    have okp : ∀ (op s : Str), op.length ≤ 16777216 → s.length ≤ 16777216 → ok_Pred 16777216 (.mk op s z_api_Value []) := fun op s h h' => .mk h h' okZ (by simp) (fun x hx => by cases hx)
    rcases skip_cases [97, 108, 108] o1 with ⟨a1, a2, a3⟩ | ⟨a1, a2⟩
    · simp only [a1]
      refine Tot.ite (fun _ => Tot.ret ?_) (fun c => by simp at c)
      have := congrArg List.length a2
      simp at this
      exact ⟨by dsimp only; omega, by dsimp only; omega, by dsimp only; omega, fun _ => ⟨by dsimp only; omega, okp _ _ (by simp) (by simp), _, .all, by rw [← hs]; exact a2⟩⟩
    simp only [a1, a2]
    refine Tot.ite (fun c => by simp at c) fun _ => ?_
    have named : ∀ (pre op : Str), op.length ≤ 16777216 → o1.s_ = pre ++ (pred_parser_skip_o0 pre o1).2.s_ → (pred_parser_skip_o0 pre o1).2.nodes_ = o1.nodes_ → (∀ s, PY (d + 1) (.mk op s z_api_Value []) (pre ++ (s ++ [41]))) → Tot (pred_parser_named_o0 op (pred_parser_skip_o0 pre o1).2) (PQ (d + 1) o []) := fun pre op hop b2 b3 hy => by
      have hl := congrArg List.length b2
      rw [List.length_append] at hl
      refine (parserNamed (by omega)).mono fun r hr => ?_
      obtain ⟨s, r1, r2, r3, r4, r5⟩ := hr
      refine ⟨by omega, by omega, by omega, fun k => ⟨by omega, by rw [r1]; exact okp _ _ hop r2, _, by rw [r1]; exact hy s, ?_⟩⟩
      rw [List.nil_append, ← hs, b2, r5 k]; simp
    rcases skip_cases [116, 111, 112, 105, 99, 40] o1 with ⟨b1, b2, b3⟩ | ⟨b1, b2⟩
    · simp only [b1]
      refine Tot.ite (fun _ => ?_) (fun c => by simp at c)
      exact Tot.bind ((named _ _ (by simp) b2 b3 (fun s => .topic)).mono fun r hr => Tot.ret hr)
    simp only [b1, b2]
    refine Tot.ite (fun c => by simp at c) fun _ => ?_
    rcases skip_cases [104, 97, 115, 40] o1 with ⟨d1, d2, d3⟩ | ⟨d1, d2⟩
    · simp only [d1]
      refine Tot.ite (fun _ => ?_) (fun c => by simp at c)
      exact Tot.bind ((named _ _ (by simp) d2 d3 (fun s => .has)).mono fun r hr => Tot.ret hr)
    simp only [d1, d2]
    refine Tot.ite (fun c => by simp at c) fun _ => ?_
    rcases skip_cases [40] o1 with ⟨e1, e2, e3⟩ | ⟨e1, e2⟩
    · simp only [e1]
      refine Tot.ite (fun _ => ?_) (fun c => by simp at c)
      have hl := congrArg List.length e2
      rw [List.length_append] at hl
      have hw2 : IntKind.i64.wrap (a - 1) = a - 1 := wrap64 (by omega) (by omega)
      rw [hw2]
      refine Tot.bind ((parserInner (d := d) (fun q q1 q2 q3 => ?_) (by omega) (by omega) (by omega)).mono fun r hr => Tot.ret ?_)
      · have := ih (a - 1) q (by omega) (by omega) (by omega) q1 q2 q3
        rwa [show (a - 1).toNat = d by omega] at this
      · obtain ⟨r1, r2, r3, r4⟩ := hr
        refine ⟨by dsimp only; omega, by dsimp only; omega, r3, fun k => ?_⟩
        obtain ⟨r5, r6, t, r7, r8⟩ := r4 k
        exact ⟨r5, r6, t, r7, by rw [List.nil_append, ← hs, e2]; exact r8⟩
    · simp only [e1, e2]
      refine Tot.ite (fun c => by simp at c) fun _ => Tot.ret ⟨by dsimp only; omega, by dsimp only; omega, by dsimp only; omega, fun k => by cases k⟩
theorem predParse {s : Str} (h : s.length ≤ 16777216) : Tot (pred_Parse s) (fun r => (r.2 = 0 ∨ r.2 = 2) ∧ (r.2 = 0 → PM r.1 ∧ ok_Pred 16777216 r.1 ∧ s = predT r.1)) := by
  unfold pred_Parse
  refine Tot.bind ((parserPred FUEL 8 ⟨s, 0⟩ (by omega) (by omega) (by simp [FUEL]) (by simp) (by simp) h).mono fun x hx => ?_)
  obtain ⟨h1, h2, h3, h4⟩ := hx
  refine Tot.cut (fun b => ((!x.2.1) || (x.2.2.s_ != [])) = false → b = true → PM x.1) ?_ fun b hb => ?_
  · refine Tot.ite (fun _ => ?_) fun c => Tot.ret fun k => absurd k c
    exact (predMay2 x.1).mono fun b hb _ => hb
  refine Tot.ite (fun _ => Tot.ret ⟨.inr rfl, fun k => by cases k⟩) fun c => Tot.ret ⟨.inl rfl, fun _ => ?_⟩
  have c' : (((!x.2.1) || (x.2.2.s_ != [])) || !b) = false := by simpa only [Bool.not_eq_true] using c
  rw [Bool.or_eq_false_iff] at c'
  have hm := hb c'.1 (by simpa using c'.2)
  have c2 := c'.1
  rw [Bool.or_eq_false_iff] at c2
  obtain ⟨n1, ok, t, py, e⟩ := h4 (by simpa using c2.1)
  have hnil : x.2.2.s_ = [] := by simpa using c2.2
  refine ⟨hm, ok, ?_⟩
  rw [hnil, List.append_nil, List.nil_append] at e
  exact e.trans (predT_eq (py.px hm.pv)).symm
end Go.Proofs
