/- Own work: what is taken for a state is laid so. -/
import Derived.Test.YthdcblpadgdamaaGreatDoorTpUnpack
import Derived.Test.YthdcblpadgdamaaGreatDoorTpLay
set_option linter.all false
namespace Go.Proofs
open Go Go.Trw
def ER {α : Type} (q : shelf_eye) (L : α → Str) (P : α → Prop) (r : α × shelf_eye) : Prop :=
  r.2.rest_.length ≤ q.rest_.length ∧ (r.2.bad_ = false → q.bad_ = false ∧ q.rest_ = L r.1 ++ r.2.rest_ ∧ P r.1)
theorem pastEye {o : shelf_eye} {n : Int} {b : Bool} (hg : b = true → 0 ≤ n ∧ n ≤ (o.rest_.length : Int)) : Tot (shelf_eye_past_o0 n b o) (fun r => (r.1 = true ∧ o.bad_ = false ∧ b = true ∧ r.2 = ⟨o.rest_.drop n.toNat, false⟩) ∨ (r.1 = false ∧ r.2.bad_ = true ∧ r.2.rest_ = o.rest_)) := by
  unfold shelf_eye_past_o0
  have hb : (o.bad_ || !b) = true ∨ ((o.bad_ || !b) = false ∧ o.bad_ = false ∧ b = true) := by
    cases o.bad_ <;> cases b <;> simp
  rcases hb with hb | ⟨hb, h1, h2⟩
  · simp only [hb]
    exact Tot.ite (fun c => by simp at c) fun _ => Tot.ret (.inr ⟨rfl, rfl, rfl⟩)
  · simp only [hb]
    exact Tot.ite (fun _ => Tot.gd (hg h2) fun _ => Tot.ret (.inl ⟨rfl, h1, h2, rfl⟩)) fun c => by simp at c
theorem rdId2 {o : shelf_eye} (h : o.rest_.length ≤ 16777216) : Tot (shelf_eye_id_o0 o) (fun r => ER o idL (inK .u64) r ∧ 0 ≤ r.1 ∧ r.1 ≤ 18446744073709551615) := by
  unfold shelf_eye_id_o0
  refine Tot.bind (((numUnpack h).and (numUnpack2 h)).mono fun x1 h1 => ?_)
  obtain ⟨⟨u1, u2, u3, u4, u5, u6⟩, u7⟩ := h1
  refine Tot.bind ((pastEye (fun _ => ⟨u3, u4⟩)).mono fun x3 h3 => ?_)
  rcases h3 with ⟨e1, e2, e3, e4⟩ | ⟨e1, e2, e3⟩
  · rw [e1, e4]
    refine Tot.ite (fun c => by simp at c) fun _ => Tot.ret ⟨⟨by simp, fun _ => ⟨e2, u7 (by simpa using e3), inK_u64.2 ⟨u1, u2⟩⟩⟩, u1, u2⟩
  · rw [e1]
    exact Tot.ite (fun _ => Tot.ret ⟨⟨by simp [e3], fun k => by rw [e2] at k; cases k⟩, by simp, by simp⟩) fun c => by simp at c
theorem rdId {o : shelf_eye} (h : o.rest_.length ≤ 16777216) : Tot (shelf_eye_id_o0 o) (ER o idL (inK .u64)) := (rdId2 h).mono fun _ k => k.1
theorem rdNumber {o : shelf_eye} (h : o.rest_.length ≤ 16777216) : Tot (shelf_eye_number_o0 o) (ER o numL (inK .i64)) := by
  unfold shelf_eye_number_o0
  refine Tot.bind ((rdId2 h).mono fun x1 h1 => Tot.ret ?_)
  obtain ⟨⟨h1, h2⟩, h3, h4⟩ := h1
  refine ⟨h1, fun k => ?_⟩
  obtain ⟨b1, e1, p1⟩ := h2 k
  refine ⟨b1, ?_, unfold_inK _⟩
  obtain ⟨n, hn⟩ : ∃ n : Nat, x1.1 = (n : Int) := ⟨x1.1.toNat, by omega⟩
  rw [hn] at h4
  show o.rest_ = numL (num_Unfold x1.1) ++ x1.2.rest_
  unfold numL
  rw [hn, unfoldFold (by omega), e1]
  unfold idL
  rw [hn, Int.toNat_natCast]
theorem rdText {o : shelf_eye} (h : o.rest_.length ≤ 16777216) : Tot (shelf_eye_text_o0 o) (ER o textL (okS 16777216)) := by
  unfold shelf_eye_text_o0
  refine Tot.bind ((rdId2 h).mono fun x1 h1 => ?_)
  obtain ⟨⟨h1, h2⟩, h3, h4⟩ := h1
  have hl : IntKind.u64.wrap (x1.2.rest_.length : Int) = x1.2.rest_.length := lenU (by omega)
  rw [hl]
  have hle : decide (x1.1 ≤ (x1.2.rest_.length : Int)) = true → x1.1 ≤ (x1.2.rest_.length : Int) := of_decide_eq_true
  refine Tot.bind ((pastEye (o := x1.2) (fun k => by have := hle k; rw [wrap64 (by omega) (by omega)]; omega)).mono fun x3 h3' => ?_)
  rcases h3' with ⟨e1, e2, e3, e4⟩ | ⟨e1, e2, e3⟩
  · have hx := hle e3
    rw [wrap64 (by omega) (by omega)] at e4
    rw [e1, e4]
    refine Tot.ite (fun c => by simp at c) fun _ => Tot.gd ⟨h3, hx⟩ fun _ => Tot.ret ⟨by simp; omega, fun _ => ?_⟩
    obtain ⟨b1, q1, p1⟩ := h2 e2
    refine ⟨b1, ?_, by show (List.take _ _).length ≤ _; rw [List.length_take]; omega⟩
    show o.rest_ = textL (List.take x1.1.toNat x1.2.rest_) ++ List.drop x1.1.toNat x1.2.rest_
    unfold textL
    rw [List.append_assoc, List.take_append_drop, List.length_take, Nat.min_eq_left (by omega)]
    exact q1
  · rw [e1]
    exact Tot.ite (fun _ => Tot.ret ⟨by rw [e3]; exact h1, fun k => by rw [e2] at k; cases k⟩) fun c => by simp at c
theorem rdList {α : Type} {f : shelf_eye → Option (α × shelf_eye)} {L : α → Str} {P : α → Prop} (hf : ∀ {o : shelf_eye}, o.rest_.length ≤ 16777216 → Tot (f o) (ER o L P)) {o : shelf_eye} (h : o.rest_.length ≤ 16777216) :
    Tot ((shelf_eye_id_o0 o).bind fun x1 => ((if (decide (x1.1 > (IntKind.u64.wrap (List.length (shelf_eye.rest_ x1.2) : Int)))) then (some ({ x1.2 with bad_ := true })) else (some x1.2) : Option shelf_eye).bind fun v4 => ((loopO (fun (s40 : (Int × shelf_eye × (List α))) => match s40 with | (v18, v19, v20) => (if ((decide (v18 > (0 : Int))) && (!(shelf_eye.bad_ v19))) then ((f v19).bind fun x49 => (if List.length v20 + List.length ([x49.1] : (List α)) ≤ 16777216 then (some (Sum.inl (IntKind.u64.wrap (v18 - (1 : Int)), x49.2, v20 ++ ([x49.1] : (List α))))) else none)) else (some (Sum.inr (v19, v20)))) : (Int × shelf_eye × (List α)) → Option ((Int × shelf_eye × (List α)) ⊕ (shelf_eye × (List α)))) (x1.1, v4, ([] : (List α)))).bind fun (v31, v32) => (some ((v32, v31))))))
      (ER o (listL L) (okL 16777216 P)) := by
  refine Tot.bind ((rdId2 h).mono fun x1 h1 => ?_)
  obtain ⟨⟨h1, h2⟩, h3, h4⟩ := h1
  have hl : IntKind.u64.wrap (x1.2.rest_.length : Int) = x1.2.rest_.length := lenU (by omega)
  rw [hl]
  obtain ⟨n, hn⟩ : ∃ n : Nat, x1.1 = (n : Int) := ⟨x1.1.toNat, by omega⟩
  rw [hn]
  refine Tot.cut (fun v => v.rest_ = x1.2.rest_ ∧ (v.bad_ = false → x1.2.bad_ = false ∧ n ≤ 16777216)) (Tot.ite (fun _ => Tot.ret ⟨rfl, fun k => by cases k⟩) fun c => Tot.ret ⟨rfl, fun k => ⟨k, by simp at c; omega⟩⟩) fun v4 hv4 => ?_
  obtain ⟨g1, g2⟩ := hv4
  refine Tot.bind (Tot.loop (fun (k, q, acc) => 0 ≤ k ∧ (acc.length : Int) + k = n ∧ q.rest_.length ≤ x1.2.rest_.length ∧ (q.bad_ = false → v4.bad_ = false ∧ x1.2.rest_ = (acc.map L).flatten ++ q.rest_ ∧ ∀ x ∈ acc, P x)) (fun (k, q, acc) => k.toNat) ?_ ?_)
  · exact ⟨by omega, by simp, by rw [g1]; exact Nat.le_refl _, fun k => ⟨k, by rw [g1]; simp, fun x hx => by cases hx⟩⟩
  · rintro ⟨k, q, acc⟩ ⟨i1, i2, i3, i4⟩
    dsimp only at i1 i2 i3 i4 ⊢
    refine Tot.ite (fun c => ?_) (fun c => Tot.brk (Tot.ret ?_))
    · have c2 : 0 < k ∧ q.bad_ = false := by simpa using c
      obtain ⟨j1, j2, j3⟩ := i4 c2.2
      have hn16 := (g2 j1).2
      refine Tot.bind ((hf (o := q) (by omega)).mono fun x hx => ?_)
      obtain ⟨y1, y2⟩ := hx
      have hw : IntKind.u64.wrap (k - 1) = k - 1 := wrapu64 (by omega) (by omega)
      refine Tot.gd (by simp; omega) fun _ => ?_
      rw [hw]
      refine Tot.next ⟨by omega, by simp; omega, by dsimp only; omega, fun kk => ?_⟩ (by show (k - 1).toNat < k.toNat; omega)
      obtain ⟨b1, e1, p1⟩ := y2 kk
      refine ⟨j1, ?_, fun z hz => ?_⟩
      · rw [j2, e1]; simp
      · rw [List.mem_append] at hz
        rcases hz with hz | hz
        · exact j3 z hz
        · simp at hz; subst hz; exact p1
    · refine ⟨by dsimp only; omega, fun kk => ?_⟩
      have kk : q.bad_ = false := kk
      obtain ⟨j1, j2, j3⟩ := i4 kk
      have hk : k = 0 := by
        rw [kk] at c; simp at c; omega
      obtain ⟨m1, m2⟩ := g2 j1
      obtain ⟨b1, e1, p1⟩ := h2 m1
      refine ⟨b1, ?_, by show acc.length ≤ _; omega, j3⟩
      show o.rest_ = listL L acc ++ q.rest_
      unfold listL
      rw [e1, j2, List.append_assoc]
      unfold idL
      rw [hn, Int.toNat_natCast, show acc.length = n by omega]
theorem rdWhere {o : shelf_eye} (h : o.rest_.length ≤ 16777216) : Tot (shelf_eye_where_o0 o) (ER o whereL (fun p => PM p ∧ ok_Pred 16777216 p)) := by
  unfold shelf_eye_where_o0
  refine Tot.bind (((rdText h).and (Q := fun r => r.1.length ≤ 16777216) ?_).mono fun x1 h1 => ?_)
  · unfold shelf_eye_text_o0
    refine Tot.bind ((rdId2 h).mono fun x1 h1 => ?_)
    obtain ⟨⟨h1, h2⟩, h3, h4⟩ := h1
    have hl : IntKind.u64.wrap (x1.2.rest_.length : Int) = x1.2.rest_.length := lenU (by omega)
    rw [hl]
    have hle : decide (x1.1 ≤ (x1.2.rest_.length : Int)) = true → x1.1 ≤ (x1.2.rest_.length : Int) := of_decide_eq_true
    refine Tot.bind ((pastEye (o := x1.2) (fun k => by have := hle k; rw [wrap64 (by omega) (by omega)]; omega)).mono fun x3 h3' => ?_)
    rcases h3' with ⟨e1, e2, e3, e4⟩ | ⟨e1, e2, e3⟩
    · have hx := hle e3
      rw [e1]
      refine Tot.ite (fun c => by simp at c) fun _ => Tot.gd ⟨h3, hx⟩ fun _ => Tot.ret ?_
      show (List.take _ _).length ≤ _
      rw [List.length_take]; omega
    · rw [e1]
      exact Tot.ite (fun _ => Tot.ret (by simp)) fun c => by simp at c
  obtain ⟨⟨h1, h2⟩, h0⟩ := h1
  refine Tot.bind ((predParse h0).mono fun x3 h3 => ?_)
  refine Tot.bind ((pastEye (o := x1.2) (n := 0) (fun _ => by omega)).mono fun x5 h5 => ?_)
  rcases h5 with ⟨e1, e2, e3, e4⟩ | ⟨e1, e2, e3⟩
  · rw [e1, e4]
    refine Tot.ite (fun c => by simp at c) fun _ => Tot.ret ⟨by simp; omega, fun _ => ?_⟩
    obtain ⟨m1, m2, m3⟩ := h3.2 (by simpa using e3)
    obtain ⟨b1, q1, p1⟩ := h2 e2
    refine ⟨b1, ?_, m1, m2⟩
    show o.rest_ = textL (predT x3.1) ++ List.drop (Int.toNat 0) x1.2.rest_
    rw [← m3]; exact q1
  · rw [e1]
    exact Tot.ite (fun _ => Tot.ret ⟨by rw [e3]; exact h1, fun k => by rw [e2] at k; cases k⟩) fun c => by simp at c
theorem valTake2 {s : Str} (h : s.length ≤ 16777216) : Tot (val_Take s) (fun r => r.2.2 = 0 → s = valL r.1 ++ s.drop r.2.1.toNat) := by
  unfold val_Take
  refine Tot.ite (fun _ => Tot.ret (fun k => by cases k)) fun c => ?_
  cases s with
  | nil => exact absurd rfl c
  | cons b t =>
    have hb : sAt (b :: t) (0 : Int) = (b.toNat : Int) := rfl
    have ht : t.length ≤ 16777216 := by simp at h; omega
    have hd : List.drop (Int.toNat 1) (b :: t) = t := rfl
    refine Tot.gd (by simp) fun _ => Tot.ite (fun _ => Tot.ret (fun k => by cases k)) fun c2 => Tot.gd (by simp; omega) fun _ => ?_
    rw [hd, hb] at *
    refine Tot.bind (((numUnpack ht).and (numUnpack2 ht)).mono fun x h1 => ?_)
    obtain ⟨⟨u1, u2, u3, u4, u5, u6⟩, u7⟩ := h1
    refine Tot.ite (fun c3 => Tot.ret (fun k => absurd k (by simpa using c3))) fun c3 => ?_
    have hx := u7 (by simpa using c3)
    obtain ⟨n, hn⟩ : ∃ n : Nat, x.1 = (n : Int) := ⟨x.1.toNat, by omega⟩
    obtain ⟨m, hm⟩ : ∃ m : Nat, x.2.1 = (m : Int) := ⟨x.2.1.toNat, by omega⟩
    rw [hn, hm, Int.toNat_natCast, Int.toNat_natCast] at hx
    rw [hn, hm]
    have w1 : IntKind.i64.wrap ((m : Int) + 1) = ((m + 1 : Nat) : Int) := by rw [wrap64 (by omega) (by omega)]; omega
    rw [w1]
    refine Tot.ite (fun c4 => Tot.ret (fun _ => ?_)) fun c4 => ?_
    · have hb1 : b = 1 := by
        have : b.toNat = 1 := by simp at c4; omega
        rw [← UInt8.toNat_inj]; exact this
      subst hb1
      show 1 :: t = (if true = true then 1 :: packN (foldN (num_Unfold (n : Int))) else _) ++ List.drop ((m + 1 : Nat) : Int).toNat (1 :: t)
      rw [if_pos rfl, unfoldFold (by omega), Int.toNat_natCast, List.drop_succ_cons, List.cons_append, ← hx]
    · have hb2 : b = 2 := by
        have : b.toNat = 2 := by simp at c2 c4; omega
        rw [← UInt8.toNat_inj]; exact this
      subst hb2
      refine Tot.ite (fun _ => Tot.ret (fun k => by cases k)) fun c5 => ?_
      have h60 : n ≤ 60 := by simp at c5; omega
      rw [wrap64 (n := (n : Int)) (by omega) (by omega)]
      have w2 : IntKind.i64.wrap (((m + 1 : Nat) : Int) + (n : Int)) = ((m + 1 + n : Nat) : Int) := by rw [wrap64 (by omega) (by omega)]; omega
      rw [w2]
      refine Tot.ite (fun _ => Tot.ret (fun k => by cases k)) fun c6 => ?_
      have hle : m + n ≤ t.length := by simp at c6; omega
      refine Tot.gd (by simp; omega) fun _ => Tot.ret (fun _ => ?_)
      have hcut : cutS (2 :: t) ((m + 1 : Nat) : Int) ((m + 1 + n : Nat) : Int) = (t.drop m).take n := by
        unfold cutS
        simp only [Int.toNat_natCast]
        rw [show m + 1 + n = (m + n) + 1 by omega]
        simp [List.drop_take]
      show 2 :: t = (if false = true then _ else 2 :: (packN (cutS (2 :: t) _ _).length ++ cutS (2 :: t) _ _)) ++ List.drop ((m + 1 + n : Nat) : Int).toNat (2 :: t)
      rw [if_neg (by decide), hcut, Int.toNat_natCast, show m + 1 + n = (m + n) + 1 by omega, List.drop_succ_cons, List.length_take, List.length_drop, Nat.min_eq_left (by omega)]
      rw [List.cons_append, List.append_assoc, ← List.drop_drop, List.take_append_drop, ← hx]
theorem rdKey {o : shelf_eye} (h : o.rest_.length ≤ 16777216) : Tot (shelf_eye_key_o0 o) (ER o valL (ok_Value 16777216)) := by
  unfold shelf_eye_key_o0
  refine Tot.bind (((valTake h).and (valTake2 h)).mono fun x1 h1 => ?_)
  obtain ⟨⟨u1, u2, u3⟩, u4⟩ := h1
  refine Tot.bind ((pastEye (fun _ => ⟨u2, u3⟩)).mono fun x3 h3 => ?_)
  rcases h3 with ⟨e1, e2, e3, e4⟩ | ⟨e1, e2, e3⟩
  · rw [e1, e4]
    exact Tot.ite (fun c => by simp at c) fun _ => Tot.ret ⟨by simp, fun _ => ⟨e2, u4 (by simpa using e3), u1.1, Nat.le_trans u1.2 (by omega)⟩⟩
  · rw [e1]
    exact Tot.ite (fun _ => Tot.ret ⟨by simp [e3], fun k => by rw [e2] at k; cases k⟩) fun c => by simp at c
theorem rdTexts {o : shelf_eye} (h : o.rest_.length ≤ 16777216) : Tot (shelf_some_string_o0__shelf_eye_text_o0 o) (ER o (listL textL) (okL 16777216 (okS 16777216))) := by unfold shelf_some_string_o0__shelf_eye_text_o0; exact rdList (fun h => rdText h) h
theorem rdTopic {o : shelf_eye} (h : o.rest_.length ≤ 16777216) : Tot (shelf_eye_topic_o0 o) (ER o topicL (ok_Topic 16777216)) := by
  unfold shelf_eye_topic_o0
  refine Tot.bind ((rdText h).mono fun x1 h1 => ?_)
  have g1 := Nat.le_trans h1.1 h
  refine Tot.bind ((rdNumber g1).mono fun x2 h2 => ?_)
  have g2 := Nat.le_trans h2.1 g1
  refine Tot.bind ((rdTexts g2).mono fun x3 h3 => ?_)
  have g3 := Nat.le_trans h3.1 g2
  refine Tot.ret ⟨?_, fun k => ?_⟩
  · have := h1.1; have := h2.1; have := h3.1; dsimp only; omega
  · obtain ⟨b3, e3, p3⟩ := h3.2 k
    obtain ⟨b2, e2, p2⟩ := h2.2 b3
    obtain ⟨b1, e1, p1⟩ := h1.2 b2
    exact ⟨b1, by rw [e1, e2, e3]; simp only [topicL, List.append_assoc], ⟨p1, p2, p3⟩⟩
theorem rdTopics {o : shelf_eye} (h : o.rest_.length ≤ 16777216) : Tot (shelf_some_api_Topic_o0__shelf_eye_topic_o0 o) (ER o (listL topicL) (okL 16777216 (ok_Topic 16777216))) := by unfold shelf_some_api_Topic_o0__shelf_eye_topic_o0; exact rdList (fun h => rdTopic h) h
theorem rdLast {o : shelf_eye} (h : o.rest_.length ≤ 16777216) : Tot (shelf_eye_last_o0 o) (ER o lastL (ok_Last 16777216)) := by
  unfold shelf_eye_last_o0
  refine Tot.bind ((rdText h).mono fun x1 h1 => ?_)
  have g1 := Nat.le_trans h1.1 h
  refine Tot.bind ((rdId g1).mono fun x2 h2 => ?_)
  have g2 := Nat.le_trans h2.1 g1
  refine Tot.bind ((rdNumber g2).mono fun x3 h3 => ?_)
  have g3 := Nat.le_trans h3.1 g2
  refine Tot.ret ⟨?_, fun k => ?_⟩
  · have := h1.1; have := h2.1; have := h3.1; dsimp only; omega
  · obtain ⟨b3, e3, p3⟩ := h3.2 k
    obtain ⟨b2, e2, p2⟩ := h2.2 b3
    obtain ⟨b1, e1, p1⟩ := h1.2 b2
    exact ⟨b1, by rw [e1, e2, e3]; simp only [lastL, List.append_assoc], ⟨p1, p2, p3⟩⟩
theorem rdLasts {o : shelf_eye} (h : o.rest_.length ≤ 16777216) : Tot (shelf_some_api_Last_o0__shelf_eye_last_o0 o) (ER o (listL lastL) (okL 16777216 (ok_Last 16777216))) := by unfold shelf_some_api_Last_o0__shelf_eye_last_o0; exact rdList (fun h => rdLast h) h
theorem rdWheres {o : shelf_eye} (h : o.rest_.length ≤ 16777216) : Tot (shelf_some_api_Pred_o0__shelf_eye_where_o0 o) (ER o (listL whereL) (okL 16777216 (fun p => PM p ∧ ok_Pred 16777216 p))) := by unfold shelf_some_api_Pred_o0__shelf_eye_where_o0; exact rdList (fun h => rdWhere h) h
theorem rdDef {o : shelf_eye} (h : o.rest_.length ≤ 16777216) : Tot (shelf_eye_def_o0 o) (ER o defL (fun d => ok_Def 16777216 d ∧ ∀ p ∈ d.Where, PM p)) := by
  unfold shelf_eye_def_o0
  refine Tot.bind ((rdText h).mono fun x1 h1 => ?_)
  have g1 := Nat.le_trans h1.1 h
  refine Tot.bind ((rdTexts g1).mono fun x2 h2 => ?_)
  have g2 := Nat.le_trans h2.1 g1
  refine Tot.bind ((rdWheres g2).mono fun x3 h3 => ?_)
  have g3 := Nat.le_trans h3.1 g2
  refine Tot.bind ((rdText g3).mono fun x4 h4 => ?_)
  have g4 := Nat.le_trans h4.1 g3
  refine Tot.bind ((rdText g4).mono fun x5 h5 => ?_)
  have g5 := Nat.le_trans h5.1 g4
  refine Tot.bind ((rdNumber g5).mono fun x6 h6 => ?_)
  have g6 := Nat.le_trans h6.1 g5
  refine Tot.bind ((rdNumber g6).mono fun x7 h7 => ?_)
  have g7 := Nat.le_trans h7.1 g6
  refine Tot.bind ((rdNumber g7).mono fun x8 h8 => ?_)
  have g8 := Nat.le_trans h8.1 g7
  refine Tot.ret ⟨?_, fun k => ?_⟩
  · have := h1.1; have := h2.1; have := h3.1; have := h4.1; have := h5.1; have := h6.1; have := h7.1; have := h8.1; dsimp only; omega
  · obtain ⟨b8, e8, p8⟩ := h8.2 k
    obtain ⟨b7, e7, p7⟩ := h7.2 b8
    obtain ⟨b6, e6, p6⟩ := h6.2 b7
    obtain ⟨b5, e5, p5⟩ := h5.2 b6
    obtain ⟨b4, e4, p4⟩ := h4.2 b5
    obtain ⟨b3, e3, p3⟩ := h3.2 b4
    obtain ⟨b2, e2, p2⟩ := h2.2 b3
    obtain ⟨b1, e1, p1⟩ := h1.2 b2
    exact ⟨b1, by rw [e1, e2, e3, e4, e5, e6, e7, e8]; simp only [defL, List.append_assoc], ⟨⟨p1, p2, ⟨p3.1, fun x hx => (p3.2 x hx).2⟩, p4, ⟨p5, p6, p7, p8⟩⟩, fun x hx => (p3.2 x hx).1⟩⟩
theorem rdOff {o : shelf_eye} (h : o.rest_.length ≤ 16777216) : Tot (shelf_eye_off_o0 o) (ER o offL (ok_Off 16777216)) := by
  unfold shelf_eye_off_o0
  refine Tot.bind ((rdText h).mono fun x1 h1 => ?_)
  have g1 := Nat.le_trans h1.1 h
  refine Tot.bind ((rdNumber g1).mono fun x2 h2 => ?_)
  have g2 := Nat.le_trans h2.1 g1
  refine Tot.ret ⟨?_, fun k => ?_⟩
  · have := h1.1; have := h2.1; dsimp only; omega
  · obtain ⟨b2, e2, p2⟩ := h2.2 k
    obtain ⟨b1, e1, p1⟩ := h1.2 b2
    exact ⟨b1, by rw [e1, e2]; simp only [offL, List.append_assoc], ⟨p1, p2⟩⟩
theorem rdOffs {o : shelf_eye} (h : o.rest_.length ≤ 16777216) : Tot (shelf_some_api_Off_o0__shelf_eye_off_o0 o) (ER o (listL offL) (okL 16777216 (ok_Off 16777216))) := by unfold shelf_some_api_Off_o0__shelf_eye_off_o0; exact rdList (fun h => rdOff h) h
theorem rdKept {o : shelf_eye} (h : o.rest_.length ≤ 16777216) : Tot (shelf_eye_kept_o0 o) (ER o keptL ok_Kept) := by
  unfold shelf_eye_kept_o0
  refine Tot.bind ((rdNumber h).mono fun x1 h1 => ?_)
  have g1 := Nat.le_trans h1.1 h
  refine Tot.bind ((rdId g1).mono fun x2 h2 => ?_)
  have g2 := Nat.le_trans h2.1 g1
  refine Tot.bind ((rdNumber g2).mono fun x3 h3 => ?_)
  have g3 := Nat.le_trans h3.1 g2
  refine Tot.ret ⟨?_, fun k => ?_⟩
  · have := h1.1; have := h2.1; have := h3.1; dsimp only; omega
  · obtain ⟨b3, e3, p3⟩ := h3.2 k
    obtain ⟨b2, e2, p2⟩ := h2.2 b3
    obtain ⟨b1, e1, p1⟩ := h1.2 b2
    exact ⟨b1, by rw [e1, e2, e3]; simp only [keptL, List.append_assoc], ⟨p1, p2, p3⟩⟩
theorem rdKepts {o : shelf_eye} (h : o.rest_.length ≤ 16777216) : Tot (shelf_some_api_Kept_o0__shelf_eye_kept_o0 o) (ER o (listL keptL) (okL 16777216 (ok_Kept))) := by unfold shelf_some_api_Kept_o0__shelf_eye_kept_o0; exact rdList (fun h => rdKept h) h
theorem rdInst {o : shelf_eye} (h : o.rest_.length ≤ 16777216) : Tot (shelf_eye_inst_o0 o) (ER o instL (ok_Inst 16777216)) := by
  unfold shelf_eye_inst_o0
  refine Tot.bind ((rdKey h).mono fun x1 h1 => ?_)
  have g1 := Nat.le_trans h1.1 h
  refine Tot.bind ((rdKepts g1).mono fun x2 h2 => ?_)
  have g2 := Nat.le_trans h2.1 g1
  refine Tot.ret ⟨?_, fun k => ?_⟩
  · have := h1.1; have := h2.1; dsimp only; omega
  · obtain ⟨b2, e2, p2⟩ := h2.2 k
    obtain ⟨b1, e1, p1⟩ := h1.2 b2
    exact ⟨b1, by rw [e1, e2]; simp only [instL, List.append_assoc], ⟨p1, p2⟩⟩
theorem rdInsts {o : shelf_eye} (h : o.rest_.length ≤ 16777216) : Tot (shelf_some_api_Inst_o0__shelf_eye_inst_o0 o) (ER o (listL instL) (okL 16777216 (ok_Inst 16777216))) := by unfold shelf_some_api_Inst_o0__shelf_eye_inst_o0; exact rdList (fun h => rdInst h) h
theorem rdSub {o : shelf_eye} (h : o.rest_.length ≤ 16777216) : Tot (shelf_eye_sub_o0 o) (ER o subL (fun u => ok_Sub 16777216 u ∧ ∀ p ∈ u.D.Where, PM p)) := by
  unfold shelf_eye_sub_o0
  refine Tot.bind ((rdDef h).mono fun x1 h1 => ?_)
  have g1 := Nat.le_trans h1.1 h
  refine Tot.bind ((rdOffs g1).mono fun x2 h2 => ?_)
  have g2 := Nat.le_trans h2.1 g1
  refine Tot.bind ((rdInsts g2).mono fun x3 h3 => ?_)
  have g3 := Nat.le_trans h3.1 g2
  refine Tot.bind ((rdNumber g3).mono fun x4 h4 => ?_)
  have g4 := Nat.le_trans h4.1 g3
  refine Tot.bind ((rdNumber g4).mono fun x5 h5 => ?_)
  have g5 := Nat.le_trans h5.1 g4
  refine Tot.bind ((rdNumber g5).mono fun x6 h6 => ?_)
  have g6 := Nat.le_trans h6.1 g5
  refine Tot.bind ((rdNumber g6).mono fun x7 h7 => ?_)
  have g7 := Nat.le_trans h7.1 g6
  refine Tot.bind ((rdNumber g7).mono fun x8 h8 => ?_)
  have g8 := Nat.le_trans h8.1 g7
  refine Tot.ret ⟨?_, fun k => ?_⟩
  · have := h1.1; have := h2.1; have := h3.1; have := h4.1; have := h5.1; have := h6.1; have := h7.1; have := h8.1; dsimp only; omega
  · obtain ⟨b8, e8, p8⟩ := h8.2 k
    obtain ⟨b7, e7, p7⟩ := h7.2 b8
    obtain ⟨b6, e6, p6⟩ := h6.2 b7
    obtain ⟨b5, e5, p5⟩ := h5.2 b6
    obtain ⟨b4, e4, p4⟩ := h4.2 b5
    obtain ⟨b3, e3, p3⟩ := h3.2 b4
    obtain ⟨b2, e2, p2⟩ := h2.2 b3
    obtain ⟨b1, e1, p1⟩ := h1.2 b2
    exact ⟨b1, by rw [e1, e2, e3, e4, e5, e6, e7, e8]; simp only [subL, nums5L, List.append_assoc], ⟨⟨p1.1, p2, p3, p4, p5, p6, p7, p8⟩, p1.2⟩⟩
theorem rdSubs {o : shelf_eye} (h : o.rest_.length ≤ 16777216) : Tot (shelf_some_api_Sub_o0__shelf_eye_sub_o0 o) (ER o (listL subL) (okL 16777216 (fun u => ok_Sub 16777216 u ∧ ∀ p ∈ u.D.Where, PM p))) := by unfold shelf_some_api_Sub_o0__shelf_eye_sub_o0; exact rdList (fun h => rdSub h) h
theorem rdIds {o : shelf_eye} (h : o.rest_.length ≤ 16777216) : Tot (shelf_some_uint64_o0__shelf_eye_id_o0 o) (ER o (listL idL) (okL 16777216 (inK .u64))) := by unfold shelf_some_uint64_o0__shelf_eye_id_o0; exact rdList (fun h => rdId h) h
theorem rdOut {o : shelf_eye} (h : o.rest_.length ≤ 16777216) : Tot (shelf_eye_out_o0 o) (ER o outL (ok_Out 16777216)) := by
  unfold shelf_eye_out_o0
  refine Tot.bind ((rdId h).mono fun x1 h1 => ?_)
  have g1 := Nat.le_trans h1.1 h
  refine Tot.bind ((rdText g1).mono fun x2 h2 => ?_)
  have g2 := Nat.le_trans h2.1 g1
  refine Tot.bind ((rdIds g2).mono fun x3 h3 => ?_)
  have g3 := Nat.le_trans h3.1 g2
  refine Tot.bind ((rdNumber g3).mono fun x4 h4 => ?_)
  have g4 := Nat.le_trans h4.1 g3
  refine Tot.bind ((rdNumber g4).mono fun x5 h5 => ?_)
  have g5 := Nat.le_trans h5.1 g4
  refine Tot.ret ⟨?_, fun k => ?_⟩
  · have := h1.1; have := h2.1; have := h3.1; have := h4.1; have := h5.1; dsimp only; omega
  · obtain ⟨b5, e5, p5⟩ := h5.2 k
    obtain ⟨b4, e4, p4⟩ := h4.2 b5
    obtain ⟨b3, e3, p3⟩ := h3.2 b4
    obtain ⟨b2, e2, p2⟩ := h2.2 b3
    obtain ⟨b1, e1, p1⟩ := h1.2 b2
    exact ⟨b1, by rw [e1, e2, e3, e4, e5]; simp only [outL, List.append_assoc], ⟨p1, p2, p3, p4, p5⟩⟩
theorem rdOuts {o : shelf_eye} (h : o.rest_.length ≤ 16777216) : Tot (shelf_some_api_Out_o0__shelf_eye_out_o0 o) (ER o (listL outL) (okL 16777216 (ok_Out 16777216))) := by unfold shelf_some_api_Out_o0__shelf_eye_out_o0; exact rdList (fun h => rdOut h) h
theorem rdDead {o : shelf_eye} (h : o.rest_.length ≤ 16777216) : Tot (shelf_eye_dead_o0 o) (ER o deadL (ok_Dead 16777216)) := by
  unfold shelf_eye_dead_o0
  refine Tot.bind ((rdText h).mono fun x1 h1 => ?_)
  have g1 := Nat.le_trans h1.1 h
  refine Tot.bind ((rdText g1).mono fun x2 h2 => ?_)
  have g2 := Nat.le_trans h2.1 g1
  refine Tot.ret ⟨?_, fun k => ?_⟩
  · have := h1.1; have := h2.1; dsimp only; omega
  · obtain ⟨b2, e2, p2⟩ := h2.2 k
    obtain ⟨b1, e1, p1⟩ := h1.2 b2
    exact ⟨b1, by rw [e1, e2]; simp only [deadL, List.append_assoc], ⟨p1, p2⟩⟩
theorem rdDeads {o : shelf_eye} (h : o.rest_.length ≤ 16777216) : Tot (shelf_some_api_Dead_o0__shelf_eye_dead_o0 o) (ER o (listL deadL) (okL 16777216 (ok_Dead 16777216))) := by unfold shelf_some_api_Dead_o0__shelf_eye_dead_o0; exact rdList (fun h => rdDead h) h
theorem rdRouter {o : shelf_eye} (h : o.rest_.length ≤ 16777216) : Tot (shelf_eye_router_o0 o) (ER o routerL (fun r => ok_Router 16777216 r ∧ ∀ u ∈ r.Subs, ∀ p ∈ u.D.Where, PM p)) := by
  unfold shelf_eye_router_o0
  refine Tot.bind ((rdNumber h).mono fun x1 h1 => ?_)
  have g1 := Nat.le_trans h1.1 h
  refine Tot.bind ((rdTopics g1).mono fun x2 h2 => ?_)
  have g2 := Nat.le_trans h2.1 g1
  refine Tot.bind ((rdLasts g2).mono fun x3 h3 => ?_)
  have g3 := Nat.le_trans h3.1 g2
  refine Tot.bind ((rdSubs g3).mono fun x4 h4 => ?_)
  have g4 := Nat.le_trans h4.1 g3
  refine Tot.bind ((rdNumber g4).mono fun x5 h5 => ?_)
  have g5 := Nat.le_trans h5.1 g4
  refine Tot.bind ((rdOuts g5).mono fun x6 h6 => ?_)
  have g6 := Nat.le_trans h6.1 g5
  refine Tot.bind ((rdOuts g6).mono fun x7 h7 => ?_)
  have g7 := Nat.le_trans h7.1 g6
  refine Tot.bind ((rdDeads g7).mono fun x8 h8 => ?_)
  have g8 := Nat.le_trans h8.1 g7
  refine Tot.ret ⟨?_, fun k => ?_⟩
  · have := h1.1; have := h2.1; have := h3.1; have := h4.1; have := h5.1; have := h6.1; have := h7.1; have := h8.1; dsimp only; omega
  · obtain ⟨b8, e8, p8⟩ := h8.2 k
    obtain ⟨b7, e7, p7⟩ := h7.2 b8
    obtain ⟨b6, e6, p6⟩ := h6.2 b7
    obtain ⟨b5, e5, p5⟩ := h5.2 b6
    obtain ⟨b4, e4, p4⟩ := h4.2 b5
    obtain ⟨b3, e3, p3⟩ := h3.2 b4
    obtain ⟨b2, e2, p2⟩ := h2.2 b3
    obtain ⟨b1, e1, p1⟩ := h1.2 b2
    exact ⟨b1, by rw [e1, e2, e3, e4, e5, e6, e7, e8]; simp only [routerL, List.append_assoc], ⟨⟨p1, p2, p3, ⟨p4.1, fun x hx => (p4.2 x hx).1⟩, p5, p6, p7, p8⟩, fun u hu => (p4.2 u hu).2⟩⟩
end Go.Proofs
