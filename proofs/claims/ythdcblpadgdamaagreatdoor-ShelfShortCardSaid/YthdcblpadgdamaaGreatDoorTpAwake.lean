/- Own work: operations' octets, and the examples. -/
import Derived.Test.YthdcblpadgdamaaGreatDoorTpEyes
set_option linter.all false
namespace Go.Proofs
open Go Go.Trw
theorem def_ext (a b : api_Def) : a = b ↔ a.Name = b.Name ∧ a.Globs = b.Globs ∧ a.Where = b.Where ∧ a.Key = b.Key ∧ a.J = b.J := by
  cases a; cases b; simp
theorem def_none {d : api_Def} (h : shelf_none d = true) : d = z_api_Def := by
  unfold shelf_none at h
  simp only [Bool.and_eq_true, beq_iff_eq, decide_eq_true_eq] at h
  obtain ⟨⟨⟨⟨h1, h2⟩, h3⟩, h4⟩, h5⟩ := h
  rw [def_ext]
  exact ⟨h1, List.eq_nil_of_length_eq_zero (by omega), List.eq_nil_of_length_eq_zero (by omega), h4, h5⟩
/-- An operation whose octets there are. -/
def CO (o : api_Op) : Prop := (o.Kind = 2 → ∀ p ∈ o.D.Where, PM p) ∧ (o.Kind ≠ 2 → o.D = z_api_Def)
theorem shelfMay {N : Nat} {o : api_Op} (h : ok_Op N o) (hN : N ≤ 16777216) : Tot (shelf_May o) (fun b => b = true → CO o) := by
  have hd := def_none (d := o.D)
  unfold shelf_May
  repeat' first
    | dsimp only
    | refine (offsMay h.d hN).mono (fun _ _ => ?_)
    | refine Tot.gd ?_ (fun _ => ?_)
    | refine Tot.ite (fun _ => ?_) (fun _ => ?_)
    | refine Tot.next ?_ ?_
    | refine Tot.brk ?_
    | refine Tot.ret ?_
    | refine Tot.bind ?_
  all_goals unfold CO
  all_goals grind
theorem penTruth {t : Bool} {b : Str} (hb : b.length + 1 ≤ 16777216) : Tot (shelf_pen_truth_o0 t b) (fun r => r = b ++ boolL t) := by
  unfold shelf_pen_truth_o0 strings_Builder_WriteByte boolL
  refine Tot.ite (fun c => ?_) fun c => ?_
  · refine Tot.bind (Tot.gd ⟨hb, by omega, by omega⟩ fun _ => Tot.ret (Tot.ret ?_))
    rw [if_pos c]; rfl
  · refine Tot.bind (Tot.gd ⟨hb, by omega, by omega⟩ fun _ => Tot.ret (Tot.ret ?_))
    rw [if_neg c]; rfl
theorem penOp {N : Nat} {o : api_Op} {b : Str} (h : ok_Op N o) (hN : N ≤ 16777216) (hc : CO o) (hb : b.length + (opL o).length ≤ 16777216) : Tot (shelf_pen_op_o0 o b) (fun r => r = b ++ opL o) := by
  unfold opL at *
  simp only [List.length_append] at hb
  have hbl : (boolL o.Ok).length = 1 := by unfold boolL; split <;> rfl
  unfold shelf_pen_op_o0
  refine Tot.bind ((penNumber h.kind (by omega)).mono fun x1 h1 => ?_)
  have e1 := congrArg List.length h1; simp only [List.length_append] at e1
  refine Tot.bind ((penText (by omega)).mono fun x3 h3 => ?_)
  have e3 := congrArg List.length h3; simp only [List.length_append] at e3
  refine Tot.bind ((penTruth (by omega)).mono fun x5 h5 => ?_)
  have e5 := congrArg List.length h5; simp only [List.length_append] at e5
  refine Tot.bind ((penId h.id (by omega)).mono fun x7 h7 => ?_)
  have e7 := congrArg List.length h7; simp only [List.length_append] at e7
  refine Tot.bind ((penNumber h.n (by omega)).mono fun x9 h9 => ?_)
  have e9 := congrArg List.length h9; simp only [List.length_append] at e9
  refine Tot.ite (fun c => ?_) fun c => ?_
  · have hk : o.Kind = 2 := by simpa using c
    rw [if_pos hk] at hb
    refine Tot.bind ((penDef h.d hN (hc.1 hk) (by omega)).mono fun x12 h12 => Tot.ret ?_)
    rw [if_pos hk, h12, h9, h7, h5, h3, h1]; simp only [List.append_assoc]
  · have hk : o.Kind ≠ 2 := by simpa using c
    refine Tot.ret ?_
    rw [if_neg hk, h9, h7, h5, h3, h1]; simp only [List.append_assoc, List.append_nil]
theorem CO.opP {N : Nat} {o : api_Op} (h : ok_Op N o) (hc : CO o) : opP o := ⟨(inK_u64.1 h.id).1, fun k p hp => (hc.1 k p hp).pv, hc.2⟩
theorem shelfLayOp {o : api_Op} (h : few_Op o) : Tot (shelf_LayOp o) (fun x => (x.2 = 0 ∨ x.2 = 1) ∧ (x.2 = 0 → CO o ∧ x.1 = opL o) ∧ (x.2 = 1 → x.1 = [])) := by
  unfold shelf_LayOp
  refine Tot.bind ((shelfMay h.1 (by omega)).mono fun e he => ?_)
  refine Tot.ite (fun c => Tot.ret ⟨.inr rfl, fun k => by simp at k, fun _ => rfl⟩) fun c => ?_
  have hc : CO o := he (by simpa using c)
  have hl := opL_len h (hc.opP h.1)
  refine Tot.bind ((penOp (b := []) h.1 (by omega) hc (by simpa using hl)).mono fun x hx => ?_)
  have hx' : x = opL o := by simpa using hx
  subst hx'
  have hp : 1 ≤ (opL o).length := by have := numL_pos o.Kind; unfold opL; rw [List.length_append]; omega
  exact Tot.bind ((bldGet hp hl).mono fun y hy => Tot.ret ⟨.inl rfl, fun _ => ⟨hc, hy⟩, fun k => by simp at k⟩)
theorem rdTruth {o : shelf_eye} (h : o.rest_.length ≤ 16777216) : Tot (shelf_eye_truth_o0 o) (ER o boolL (fun _ => True)) := by
  unfold shelf_eye_truth_o0
  have hne : (o.rest_ != []) = true → 0 < o.rest_.length := fun k => by
    cases hr : o.rest_ with
    | nil => rw [hr] at k; cases k
    | cons b t => simp
  refine Tot.gd (fun k => by have := hne k; omega) fun _ => ?_
  have hne2 : ∀ c : Bool, ((o.rest_ != []) && c) = true → 0 < o.rest_.length := fun c k => hne (by simp at k; simpa using k.1)
  refine Tot.bind ((pastEye (fun k => by have := hne2 _ k; omega)).mono fun x3 h3 => ?_)
  rcases h3 with ⟨e1, e2, e3, e4⟩ | ⟨e1, e2, e3⟩
  · have hl := hne2 _ e3
    rw [e1, e4]
    refine Tot.ite (fun c => by simp at c) fun _ => Tot.gd ⟨by omega, by omega⟩ fun _ => Tot.ret ⟨by simp, fun _ => ⟨e2, ?_, trivial⟩⟩
    cases hr : o.rest_ with
    | nil => rw [hr] at hl; simp at hl
    | cons b t =>
      rw [hr] at e3
      have hb : sAt (b :: t) (0 : Int) = (b.toNat : Int) := rfl
      have hb1 : b.toNat ≤ 1 := by rw [hb] at e3; simp at e3; omega
      rw [hb]
      show b :: t = boolL ((b.toNat : Int) == 1) ++ t
      rcases (by omega : b.toNat = 0 ∨ b.toNat = 1) with k | k
      · have : b = 0 := by rw [← UInt8.toNat_inj]; exact k
        subst this; rfl
      · have : b = 1 := by rw [← UInt8.toNat_inj]; exact k
        subst this; rfl
  · rw [e1]
    exact Tot.ite (fun _ => Tot.ret ⟨by simp [e3], fun k => by rw [e2] at k; cases k⟩) fun c => by simp at c
theorem okDef0 : ok_Def 16777216 z_api_Def := by
  have k : inK .i64 0 := by decide
  exact ⟨Nat.zero_le _, okL.nil, okL.nil, Nat.zero_le _, ⟨Nat.zero_le _, k, k, k⟩⟩
theorem rdOp {o : shelf_eye} (h : o.rest_.length ≤ 16777216) : Tot (shelf_eye_op_o0 o) (ER o opL (fun x => ok_Op 16777216 x)) := by
  unfold shelf_eye_op_o0
  refine Tot.bind ((rdNumber h).mono fun x1 h1 => ?_)
  have g1 := Nat.le_trans h1.1 h
  refine Tot.bind ((rdText g1).mono fun x2 h2 => ?_)
  have g2 := Nat.le_trans h2.1 g1
  refine Tot.bind ((rdTruth g2).mono fun x3 h3 => ?_)
  have g3 := Nat.le_trans h3.1 g2
  refine Tot.bind ((rdId g3).mono fun x4 h4 => ?_)
  have g4 := Nat.le_trans h4.1 g3
  refine Tot.bind ((rdNumber g4).mono fun x5 h5 => ?_)
  have g5 := Nat.le_trans h5.1 g4
  refine Tot.ite (fun c => ?_) fun c => ?_
  · have hk : x1.1 = 2 := by simpa using c
    refine Tot.bind ((rdDef g5).mono fun x6 h6 => Tot.ret ⟨?_, fun k => ?_⟩)
    · have := h1.1; have := h2.1; have := h3.1; have := h4.1; have := h5.1; have := h6.1; dsimp only; omega
    · obtain ⟨b6, e6, p6⟩ := h6.2 k
      obtain ⟨b5, e5, p5⟩ := h5.2 b6
      obtain ⟨b4, e4, p4⟩ := h4.2 b5
      obtain ⟨b3, e3, p3⟩ := h3.2 b4
      obtain ⟨b2, e2, p2⟩ := h2.2 b3
      obtain ⟨b1, e1, p1⟩ := h1.2 b2
      refine ⟨b1, ?_, ⟨p1, p2, p6.1, p4, p5⟩⟩
      rw [e1, e2, e3, e4, e5, e6]; simp only [opL, hk, if_true, List.append_assoc]
  · have hk : x1.1 ≠ 2 := by simpa using c
    refine Tot.ret ⟨?_, fun k => ?_⟩
    · have := h1.1; have := h2.1; have := h3.1; have := h4.1; have := h5.1; dsimp only; omega
    · obtain ⟨b5, e5, p5⟩ := h5.2 k
      obtain ⟨b4, e4, p4⟩ := h4.2 b5
      obtain ⟨b3, e3, p3⟩ := h3.2 b4
      obtain ⟨b2, e2, p2⟩ := h2.2 b3
      obtain ⟨b1, e1, p1⟩ := h1.2 b2
      refine ⟨b1, ?_, ⟨p1, p2, okDef0, p4, p5⟩⟩
      rw [e1, e2, e3, e4, e5]; simp only [opL, hk, if_false, List.append_assoc, List.append_nil]
theorem wholeEye {x : shelf_eye} (h : shelf_eye_whole x = true) : x.bad_ = false ∧ x.rest_ = [] := by
  unfold shelf_eye_whole at h; simpa using h
theorem shelfTake {s : Str} (h : s.length ≤ 16777216) : Tot (shelf_Take s) (fun r => r.2 = 2 ∨ (r.2 = 0 ∧ ok_Router 16777216 r.1 ∧ CR r.1 ∧ route_Check r.1 = some 0 ∧ s = routerL r.1)) := by
  unfold shelf_Take
  refine Tot.bind ((rdRouter (o := ⟨s, false⟩) h).mono fun x hx => ?_)
  cases hw : shelf_eye_whole x.2 with
  | false => exact Tot.bind (Tot.ite (fun c => by cases c) fun _ => Tot.ret (Tot.ite (fun _ => Tot.ret (.inl rfl)) fun c => by simp at c))
  | true =>
    obtain ⟨w1, w2⟩ := wholeEye hw
    obtain ⟨b1, e1, p1, p2⟩ := hx.2 w1
    refine Tot.bind (Tot.ite (fun _ => (routeCheck p1 (by omega)).self.mono fun e he => ?_) fun c => absurd rfl c)
    obtain ⟨he1, he2, he3⟩ := he
    refine Tot.ite (fun _ => Tot.ret (.inl rfl)) fun c => Tot.ret (.inr ⟨rfl, p1, he3 (by simpa using c), ?_, ?_⟩)
    · have : e = 0 := by simpa using c
      rw [this] at he1; exact he1
    · have e1 : s = routerL x.1 ++ x.2.rest_ := e1
      rw [w2, List.append_nil] at e1; exact e1
theorem shelfTakeOp {s : Str} (h : s.length ≤ 16777216) : Tot (shelf_TakeOp s) (fun r => r.2 = 2 ∨ (r.2 = 0 ∧ ok_Op 16777216 r.1 ∧ CO r.1 ∧ shelf_May r.1 = some true ∧ s = opL r.1)) := by
  unfold shelf_TakeOp
  refine Tot.bind ((rdOp (o := ⟨s, false⟩) h).mono fun x hx => ?_)
  cases hw : shelf_eye_whole x.2 with
  | false => exact Tot.bind (Tot.ite (fun c => by cases c) fun _ => Tot.ret (Tot.ite (fun _ => Tot.ret (.inl rfl)) fun c => by simp at c))
  | true =>
    obtain ⟨w1, w2⟩ := wholeEye hw
    obtain ⟨b1, e1, p1⟩ := hx.2 w1
    refine Tot.bind (Tot.ite (fun _ => (shelfMay p1 (by omega)).self.mono fun e he => ?_) fun c => absurd rfl c)
    obtain ⟨he1, he3⟩ := he
    refine Tot.ite (fun _ => Tot.ret (.inl rfl)) fun c => Tot.ret (.inr ⟨rfl, p1, he3 (by simpa using c), ?_, ?_⟩)
    · have : e = true := by simpa using c
      rw [this] at he1; exact he1
    · have e1 : s = opL x.1 ++ x.2.rest_ := e1
      rw [w2, List.append_nil] at e1; exact e1
theorem takeNil : Tot (shelf_Take []) (fun r => r.2 = 2) := (shelfTake (s := []) (by simp)).mono fun r hr => by
  rcases hr with h | ⟨_, _, _, _, h⟩
  · exact h
  · have := congrArg List.length h
    have hp := numL_pos r.1.Now
    unfold routerL at this; rw [List.length_append] at this; simp at this; omega
theorem few0 : few_Router z_api_Router := by
  have k : inK .i64 0 := by decide
  exact ⟨k, okL.nil, okL.nil, okL.nil, k, okL.nil, okL.nil, okL.nil⟩
theorem check0 : Tot (route_Check z_api_Router) (fun e => e = 0) := by
  have k : inK .i64 0 := by decide
  have t : Tot (topic_Check []) (fun e => e = 0) := by
    unfold topic_Check; rw [loopO_eq]; dsimp only; exact ⟨0, rfl, rfl⟩
  have d : Tot (dedup_Check []) (fun e => e = 0) := by
    unfold dedup_Check; rw [loopO_eq]; dsimp only; exact ⟨0, rfl, rfl⟩
  have x : Tot (outbox_Check []) (fun e => e = 0) := by
    unfold outbox_Check; rw [loopO_eq]; dsimp only; exact ⟨0, rfl, rfl⟩
  have s : Tot (route_maySubs z_api_Router) (fun e => e = true) := by
    unfold route_maySubs; rw [loopO_eq]; dsimp only [z_api_Router]; exact ⟨true, rfl, rfl⟩
  have u : Tot (route_mayDead z_api_Router) (fun e => e = true) := by
    unfold route_mayDead; rw [loopO_eq]; dsimp only [z_api_Router]; exact ⟨true, rfl, rfl⟩
  have o : Tot (route_mayOut z_api_Router) (fun e => e = true) := by
    unfold route_mayOut
    refine Tot.cut (fun e => e = 0) ?_ fun x4 h4 => Tot.cut (fun e => e = 0) ?_ fun x11 h11 => ?_
    · exact Tot.ite (fun _ => x) (fun _ => Tot.ret rfl)
    · exact Tot.ite (fun _ => x) (fun _ => Tot.ret rfl)
    subst h4 h11
    refine Tot.ite (fun c => absurd c (by decide)) fun _ => ?_
    refine Tot.cut (fun e => e = Sum.inr ()) (Tot.loop (fun i => 0 ≤ i ∧ i ≤ 2) (fun i => (2 - i).toNat) ⟨by omega, by omega⟩ ?_) ?_
    · rintro i hI
      have hn : i < 2 → (nth [z_api_Router.Out, z_api_Router.Given] i) = [] := fun hi => by
        unfold nth
        rcases (by omega : i = 0 ∨ i = 1) with rfl | rfl <;> rfl
      repeat' first
        | dsimp only
        | refine Tot.gd ?_ (fun _ => ?_)
        | refine Tot.ite (fun _ => ?_) (fun _ => ?_)
        | refine Tot.next ?_ ?_
        | refine Tot.brk ?_
        | refine Tot.ret ?_
        | refine Tot.bind ?_
      all_goals grind [okL, okS, wrap64]
    · rintro e rfl
      dsimp only
      rw [loopO_eq]; dsimp only [z_api_Router]; exact ⟨true, rfl, rfl⟩
  have n0 : z_api_Router.Now = 0 := rfl
  unfold route_Check
  repeat' first
    | dsimp only
    | refine (t).mono (fun _ _ => ?_)
    | refine (d).mono (fun _ _ => ?_)
    | refine (s).mono (fun _ _ => ?_)
    | refine (o).mono (fun _ _ => ?_)
    | refine (u).mono (fun _ _ => ?_)
    | refine Tot.gd ?_ (fun _ => ?_)
    | refine Tot.ite (fun _ => ?_) (fun _ => ?_)
    | refine Tot.next ?_ ?_
    | refine Tot.brk ?_
    | refine Tot.ret ?_
    | refine Tot.bind ?_
  all_goals grind
theorem lay0 : Tot (shelf_Lay z_api_Router) (fun x => x = ([0, 0, 0, 0, 0, 0, 0, 0], 0)) := by
  have hc : CR z_api_Router := fun u hu => by simp [z_api_Router] at hu
  have hr : routerL z_api_Router = [0, 0, 0, 0, 0, 0, 0, 0] := by
    have n0 : numL 0 = [0] := by unfold numL foldN; rw [packN_lt (by decide)]; rfl
    have l0 : ∀ {α : Type} (f : α → Str), listL f [] = [0] := fun f => by unfold listL; rw [packN_lt (by simp)]; rfl
    unfold routerL
    simp only [z_api_Router, n0, l0]; rfl
  unfold shelf_Lay
  refine Tot.bind (check0.mono fun e he => ?_)
  subst he
  refine Tot.ite (fun c => absurd c (by decide)) fun _ => ?_
  refine Tot.bind ((penRouter (b := []) few0.ok (by omega) hc (by rw [hr]; decide)).mono fun x hx => ?_)
  have hx' : x = routerL z_api_Router := by simpa using hx
  rw [hr] at hx'
  subst hx'
  exact Tot.bind ((bldGet (by decide) (by decide)).mono fun y hy => Tot.ret (by rw [hy]))
def op10 : api_Op := ⟨10, [], z_api_Def, false, 0, 0⟩
theorem layOp0 : Tot (shelf_LayOp ⟨(10 : Int), [], z_api_Def, false, 0, 0⟩) (fun x => x = ([20, 0, 0, 0, 0], 0)) := by
  have k : inK .i64 0 := by decide
  have ku : inK .u64 0 := by decide
  have k10 : inK .i64 10 := by decide
  have hd : ok_Def 70 z_api_Def := ⟨Nat.zero_le _, okL.nil, okL.nil, Nat.zero_le _, ⟨Nat.zero_le _, k, k, k⟩⟩
  have ho : ok_Op 2001 op10 := ⟨k10, Nat.zero_le _, hd.up (by omega), ku, k⟩
  have hc : CO op10 := ⟨fun k => by simp [op10] at k, fun _ => rfl⟩
  have hr : opL op10 = [20, 0, 0, 0, 0] := by
    have n0 : numL 0 = [0] := by unfold numL foldN; rw [packN_lt (by decide)]; rfl
    have n10 : numL 10 = [20] := by unfold numL foldN; rw [packN_lt (by decide)]; rfl
    have i0 : idL 0 = [0] := by unfold idL; rw [packN_lt (by decide)]; rfl
    have t0 : textL [] = [0] := by unfold textL; rw [packN_lt (by decide)]; rfl
    unfold opL op10
    dsimp only
    rw [n0, n10, i0, t0]; rfl
  have hm : shelf_May op10 = some true := by unfold shelf_May; rfl
  show Tot (shelf_LayOp op10) _
  unfold shelf_LayOp
  rw [hm]
  refine Tot.bind (Tot.ret ?_)
  refine Tot.ite (fun c => absurd c (by decide)) fun _ => ?_
  refine Tot.bind ((penOp (b := []) ho (by omega) hc (by rw [hr]; decide)).mono fun x hx => ?_)
  have hx' : x = opL op10 := by simpa using hx
  rw [hr] at hx'
  subst hx'
  exact Tot.bind ((bldGet (by decide) (by decide)).mono fun y hy => Tot.ret (by rw [hy]))
theorem awake20 : Tot trystlaw20_awake (fun b => b = true) := by
  unfold trystlaw20_awake
  refine Tot.bind (lay0.mono fun x hx => ?_)
  subst hx
  refine Tot.bind (layOp0.mono fun x hx => ?_)
  subst hx
  refine Tot.bind (takeNil.mono fun x hx => Tot.ret ?_)
  rw [hx]; decide
theorem CR.routerP {N : Nat} {r : api_Router} (h : ok_Router N r) (hc : CR r) : routerP r :=
  ⟨fun x hx => (inK_u64.1 (h.lasts.2 x hx).seq).1, fun u hu => ⟨fun p hp => ((hc u hu).1 p hp).pv, fun x hx => ⟨(hc u hu).2 x hx, fun k hk => (inK_u64.1 (((h.subs.2 u hu).insts.2 x hx).l.2 k hk).id).1⟩⟩,
   fun x hx => ⟨(inK_u64.1 (h.out.2 x hx).id).1, fun i hi => (inK_u64.1 ((h.out.2 x hx).ids.2 i hi)).1⟩,
   fun x hx => ⟨(inK_u64.1 (h.given_.2 x hx).id).1, fun i hi => (inK_u64.1 ((h.given_.2 x hx).ids.2 i hi)).1⟩⟩
theorem routerL_inj {a b : api_Router} (ha : few_Router a) (hb : few_Router b) (ca : CR a) (cb : CR b) : routerL a = routerL b ↔ a = b :=
  ⟨fun h => (routerDec a b [] [] (ca.routerP ha.ok) (cb.routerP hb.ok) (by rw [h])).1, fun h => by rw [h]⟩
theorem opL_inj {a b : api_Op} (ha : few_Op a) (hb : few_Op b) (ca : CO a) (cb : CO b) : opL a = opL b ↔ a = b :=
  ⟨fun h => (opDec a b [] [] (ca.opP ha.1) (cb.opP hb.1) (by rw [h])).1, fun h => by rw [h]⟩
end Go.Proofs
