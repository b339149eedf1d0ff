/- Own work: the law on data: it answers yes. -/
import Derived.Test.YthdcblpadgdamaaGreatDoorTpSame
set_option linter.all false
namespace Go.Proofs
open Go Go.Trw
theorem sub_ext (a b : api_Sub) : a = b ↔ a.D = b.D ∧ a.Offs = b.Offs ∧ a.Insts = b.Insts ∧ a.Fails = b.Fails ∧ a.Taken = b.Taken ∧ a.Passes = b.Passes ∧ a.Fires = b.Fires ∧ a.Over = b.Over := by
  cases a; cases b; simp
theorem router_ext (a b : api_Router) : a = b ↔ a.Now = b.Now ∧ a.Topics = b.Topics ∧ a.Lasts = b.Lasts ∧ a.Subs = b.Subs ∧ a.Total = b.Total ∧ a.Out = b.Out ∧ a.Given = b.Given ∧ a.Dead = b.Dead := by
  cases a; cases b; simp
theorem same16 {N : Nat} {a b : api_Router} (h : ok_Router N a) (hN : N ≤ 16777216) (hc : CR a) : Tot (trystref16_Same a b) (fun r => r = true ↔ a = b) := by
  have hx := router_ext a b
  have hl := Nat.le_trans h.lasts.1 hN
  have hd := Nat.le_trans h.dead.1 hN
  have hs := Nat.le_trans h.subs.1 hN
  unfold trystref16_Same
  refine Tot.cut (fun x => a.Now = b.Now → a.Total = b.Total → (x = true ↔ a.Topics = b.Topics)) ?_ fun x12 e12 => ?_
  · repeat' first
      | dsimp only
      | refine (same12 h.topics hN).mono (fun _ _ => ?_)
      | refine Tot.gd ?_ (fun _ => ?_)
      | refine Tot.ite (fun _ => ?_) (fun _ => ?_)
      | refine Tot.next ?_ ?_
      | refine Tot.brk ?_
      | refine Tot.ret ?_
      | refine Tot.bind ?_
    all_goals grind
  refine Tot.cut (fun x => a.Now = b.Now → a.Total = b.Total → x12 = true → (x = true ↔ a.Lasts = b.Lasts)) ?_ fun x21 e21 => ?_
  · repeat' first
      | dsimp only
      | refine (same13 hl).mono (fun _ _ => ?_)
      | refine Tot.gd ?_ (fun _ => ?_)
      | refine Tot.ite (fun _ => ?_) (fun _ => ?_)
      | refine Tot.next ?_ ?_
      | refine Tot.brk ?_
      | refine Tot.ret ?_
      | refine Tot.bind ?_
    all_goals grind
  refine Tot.cut (fun x => a.Now = b.Now → a.Total = b.Total → x12 = true → x21 = true → (x = true ↔ a.Out = b.Out)) ?_ fun x30 e30 => ?_
  · repeat' first
      | dsimp only
      | refine (same15 h.out hN).mono (fun _ _ => ?_)
      | refine Tot.gd ?_ (fun _ => ?_)
      | refine Tot.ite (fun _ => ?_) (fun _ => ?_)
      | refine Tot.next ?_ ?_
      | refine Tot.brk ?_
      | refine Tot.ret ?_
      | refine Tot.bind ?_
    all_goals grind
  refine Tot.cut (fun x => a.Now = b.Now → a.Total = b.Total → x12 = true → x21 = true → x30 = true → (x = true ↔ a.Given = b.Given)) ?_ fun x39 e39 => ?_
  · repeat' first
      | dsimp only
      | refine (same15 h.given_ hN).mono (fun _ _ => ?_)
      | refine Tot.gd ?_ (fun _ => ?_)
      | refine Tot.ite (fun _ => ?_) (fun _ => ?_)
      | refine Tot.next ?_ ?_
      | refine Tot.brk ?_
      | refine Tot.ret ?_
      | refine Tot.bind ?_
    all_goals grind
  refine Tot.ite (fun c => Tot.ret (by grind)) fun c => ?_
  have hh : a.Now = b.Now ∧ a.Total = b.Total ∧ a.Topics = b.Topics ∧ a.Lasts = b.Lasts ∧ a.Out = b.Out ∧ a.Given = b.Given ∧ a.Subs.length = b.Subs.length ∧ a.Dead.length = b.Dead.length := by grind
  clear e12 e21 e30 e39 c
  obtain ⟨q1, q2, q3, q4, q5, q6, q7, q8⟩ := hh
  refine Tot.cut (fun e => (e = Sum.inl false ∧ a.Dead ≠ b.Dead) ∨ (e = Sum.inr () ∧ a.Dead = b.Dead)) (Tot.loop (fun i => 0 ≤ i ∧ i ≤ (a.Dead.length : Int) ∧ sameI a.Dead b.Dead i) (fun i => (a.Dead.length - i).toNat) ⟨by omega, by omega, sameI.zero⟩ ?_) ?_
  · rintro i hI
    repeat' first
      | dsimp only
      | refine Tot.gd ?_ (fun _ => ?_)
      | refine Tot.ite (fun _ => ?_) (fun _ => ?_)
      | refine Tot.next ?_ ?_
      | refine Tot.brk ?_
      | refine Tot.ret ?_
      | refine Tot.bind ?_
    all_goals grind [okL, okS, wrap64, sameI.step, sameI.all]
  rintro (v | v) hv
  · dsimp only
    exact Tot.ret (by grind)
  dsimp only
  have hv : a.Dead = b.Dead := by grind
  refine Tot.cut (fun e => (e = Sum.inl false ∧ a.Subs ≠ b.Subs) ∨ (e = Sum.inr () ∧ a.Subs = b.Subs)) (Tot.loop (fun i => 0 ≤ i ∧ i ≤ (a.Subs.length : Int) ∧ sameI a.Subs b.Subs i) (fun i => (a.Subs.length - i).toNat) ⟨by omega, by omega, sameI.zero⟩ ?_) ?_
  · rintro i ⟨h0, h1, h2⟩
    clear hx
    have hx := sub_ext (nth a.Subs i) (nth b.Subs i)
    by_cases ci : i < (a.Subs.length : Int)
    · have hu := h.subs.nth h0 ci
      have hcu := hc _ (nth_mem h0 ci)
      have ho := Nat.le_trans hu.offs.1 hN
      repeat' first
        | dsimp only
        | refine (same14 hu.d hN hcu.1).mono (fun _ _ => ?_)
        | refine (sameOffs ho).mono (fun _ _ => ?_)
        | refine (same10 hu.insts hN).mono (fun _ _ => ?_)
        | refine Tot.gd ?_ (fun _ => ?_)
        | refine Tot.ite (fun _ => ?_) (fun _ => ?_)
        | refine Tot.next ?_ ?_
        | refine Tot.brk ?_
        | refine Tot.ret ?_
        | refine Tot.bind ?_
      all_goals grind [okL, okS, wrap64, sameI.step, sameI.all]
    · have e : decide (i < (a.Subs.length : Int)) = false := by simpa using ci
      rw [e]
      exact Tot.brk (.inr ⟨rfl, h2.all (by omega) (by omega)⟩)
  rintro (v | v) hw
  · dsimp only
    exact Tot.ret (by grind)
  · dsimp only
    exact Tot.ret (by grind)
theorem def_none {d : api_Def} (h : shelf_none d = true) : d = z_api_Def := by
  unfold shelf_none at h
  simp only [Bool.and_eq_true, beq_iff_eq, decide_eq_true_eq] at h
  obtain ⟨⟨⟨⟨h1, h2⟩, h3⟩, h4⟩, h5⟩ := h
  rw [def_ext]
  exact ⟨h1, List.eq_nil_of_length_eq_zero (by omega), List.eq_nil_of_length_eq_zero (by omega), h4, h5⟩
/-- An operation whose octets there are. -/
def CO (o : api_Op) : Prop := (o.Kind = 2 → ∀ p ∈ o.D.Where, PM p) ∧ (o.Kind ≠ 2 → o.D = z_api_Def)
theorem shelfMay {N : Nat} {o : api_Op} (h : ok_Op N o) (hN : N ≤ 16777216) : Tot (shelf_May o) (fun b => b = true → CO o) := by
  have hd := def_none (d := o.D)
  unfold shelf_May
  repeat' first
    | dsimp only
    | refine (offsMay h.d hN).mono (fun _ _ => ?_)
    | refine Tot.gd ?_ (fun _ => ?_)
    | refine Tot.ite (fun _ => ?_) (fun _ => ?_)
    | refine Tot.next ?_ ?_
    | refine Tot.brk ?_
    | refine Tot.ret ?_
    | refine Tot.bind ?_
  all_goals unfold CO
  all_goals grind
theorem penTruth {t : Bool} {b : Str} (hb : b.length + 1 ≤ 16777216) : Tot (shelf_pen_truth_o0 t b) (fun r => r = b ++ boolL t) := by
  unfold shelf_pen_truth_o0 strings_Builder_WriteByte boolL
  refine Tot.ite (fun c => ?_) fun c => ?_
  · refine Tot.bind (Tot.gd ⟨hb, by omega, by omega⟩ fun _ => Tot.ret (Tot.ret ?_))
    rw [if_pos c]; rfl
  · refine Tot.bind (Tot.gd ⟨hb, by omega, by omega⟩ fun _ => Tot.ret (Tot.ret ?_))
    rw [if_neg c]; rfl
theorem penOp {N : Nat} {o : api_Op} {b : Str} (h : ok_Op N o) (hN : N ≤ 16777216) (hc : CO o) (hb : b.length + (opL o).length ≤ 16777216) : Tot (shelf_pen_op_o0 o b) (fun r => r = b ++ opL o) := by
  unfold opL at *
  simp only [List.length_append] at hb
  have hbl : (boolL o.Ok).length = 1 := by unfold boolL; split <;> rfl
  unfold shelf_pen_op_o0
  refine Tot.bind ((penNumber h.kind (by omega)).mono fun x1 h1 => ?_)
  have e1 := congrArg List.length h1; simp only [List.length_append] at e1
  refine Tot.bind ((penText (by omega)).mono fun x3 h3 => ?_)
  have e3 := congrArg List.length h3; simp only [List.length_append] at e3
  refine Tot.bind ((penTruth (by omega)).mono fun x5 h5 => ?_)
  have e5 := congrArg List.length h5; simp only [List.length_append] at e5
  refine Tot.bind ((penId h.id (by omega)).mono fun x7 h7 => ?_)
  have e7 := congrArg List.length h7; simp only [List.length_append] at e7
  refine Tot.bind ((penNumber h.n (by omega)).mono fun x9 h9 => ?_)
  have e9 := congrArg List.length h9; simp only [List.length_append] at e9
  refine Tot.ite (fun c => ?_) fun c => ?_
  · have hk : o.Kind = 2 := by simpa using c
    rw [if_pos hk] at hb
    refine Tot.bind ((penDef h.d hN (hc.1 hk) (by omega)).mono fun x12 h12 => Tot.ret ?_)
    rw [if_pos hk, h12, h9, h7, h5, h3, h1]; simp only [List.append_assoc]
  · have hk : o.Kind ≠ 2 := by simpa using c
    refine Tot.ret ?_
    rw [if_neg hk, h9, h7, h5, h3, h1]; simp only [List.append_assoc, List.append_nil]
theorem CO.opP {N : Nat} {o : api_Op} (h : ok_Op N o) (hc : CO o) : opP o := ⟨(inK_u64.1 h.id).1, fun k p hp => (hc.1 k p hp).pv, hc.2⟩
theorem shelfLayOp {o : api_Op} (h : few_Op o) : Tot (shelf_LayOp o) (fun x => (x.2 = 0 ∨ x.2 = 1) ∧ (x.2 = 0 → CO o ∧ x.1 = opL o) ∧ (x.2 = 1 → x.1 = [])) := by
  unfold shelf_LayOp
  refine Tot.bind ((shelfMay h.1 (by omega)).mono fun e he => ?_)
  refine Tot.ite (fun c => Tot.ret ⟨.inr rfl, fun k => by simp at k, fun _ => rfl⟩) fun c => ?_
  have hc : CO o := he (by simpa using c)
  have hl := opL_len h (hc.opP h.1)
  refine Tot.bind ((penOp (b := []) h.1 (by omega) hc (by simpa using hl)).mono fun x hx => ?_)
  have hx' : x = opL o := by simpa using hx
  subst hx'
  have hp : 1 ≤ (opL o).length := by have := numL_pos o.Kind; unfold opL; rw [List.length_append]; omega
  exact Tot.bind ((bldGet hp hl).mono fun y hy => Tot.ret ⟨.inl rfl, fun _ => ⟨hc, hy⟩, fun k => by simp at k⟩)
theorem op_ext (a b : api_Op) : a = b ↔ a.Kind = b.Kind ∧ a.S = b.S ∧ a.D = b.D ∧ a.Ok = b.Ok ∧ a.Id = b.Id ∧ a.N = b.N := by
  cases a; cases b; simp
theorem same20 {N : Nat} {a b : api_Op} (h : ok_Op N a) (hN : N ≤ 16777216) (hc : CO a) : Tot (trystref20_Same a b) (fun r => r = true ↔ a = b) := by
  have hx := op_ext a b
  have hp : ∀ p ∈ a.D.Where, PM p := by
    by_cases k : a.Kind = 2
    · exact hc.1 k
    · rw [hc.2 k]; simp [z_api_Def]
  unfold trystref20_Same
  repeat' first
    | dsimp only
    | refine (same14 h.d hN hp).mono (fun _ _ => ?_)
    | refine Tot.gd ?_ (fun _ => ?_)
    | refine Tot.ite (fun _ => ?_) (fun _ => ?_)
    | refine Tot.next ?_ ?_
    | refine Tot.brk ?_
    | refine Tot.ret ?_
    | refine Tot.bind ?_
  all_goals grind
/-! ### The examples -/
theorem eyePast {o : shelf_eye} {n : Int} {b : Bool} (h : o.rest_ = []) (hb : o.bad_ = true ∨ b = false) : Tot (shelf_eye_past_o0 n b o) (fun r => r.1 = false ∧ r.2.bad_ = true ∧ r.2.rest_ = []) := by
  unfold shelf_eye_past_o0
  repeat' first
    | dsimp only
    | refine Tot.gd ?_ (fun _ => ?_)
    | refine Tot.ite (fun _ => ?_) (fun _ => ?_)
    | refine Tot.next ?_ ?_
    | refine Tot.brk ?_
    | refine Tot.ret ?_
    | refine Tot.bind ?_
  all_goals grind
theorem unpackNil : Tot (num_Unpack []) (fun r => r = (0, 0, 3)) := by
  unfold num_Unpack
  refine Tot.bind (Tot.loop (fun (n, i) => 0 ≤ i) (fun (n, i) => 0) (by omega) ?_)
  rintro ⟨n, i⟩ hI
  repeat' first
    | dsimp only
    | refine Tot.gd ?_ (fun _ => ?_)
    | refine Tot.ite (fun _ => ?_) (fun _ => ?_)
    | refine Tot.next ?_ ?_
    | refine Tot.brk ?_
    | refine Tot.ret ?_
    | refine Tot.bind ?_
  all_goals first | rfl | grind
theorem eyeId {o : shelf_eye} (h : o.rest_ = []) : Tot (shelf_eye_id_o0 o) (fun r => r.1 = 0 ∧ r.2.bad_ = true ∧ r.2.rest_ = []) := by
  unfold shelf_eye_id_o0
  rw [h]
  refine Tot.bind (unpackNil.mono fun x hx => ?_)
  subst hx
  repeat' first
    | dsimp only
    | refine (eyePast h (.inr (by decide))).mono (fun _ _ => ?_)
    | refine Tot.gd ?_ (fun _ => ?_)
    | refine Tot.ite (fun _ => ?_) (fun _ => ?_)
    | refine Tot.next ?_ ?_
    | refine Tot.brk ?_
    | refine Tot.ret ?_
    | refine Tot.bind ?_
  all_goals grind
theorem eyeNumber {o : shelf_eye} (h : o.rest_ = []) : Tot (shelf_eye_number_o0 o) (fun r => r.2.bad_ = true ∧ r.2.rest_ = []) := by
  unfold shelf_eye_number_o0
  repeat' first
    | dsimp only
    | refine (eyeId h).mono (fun _ _ => ?_)
    | refine Tot.gd ?_ (fun _ => ?_)
    | refine Tot.ite (fun _ => ?_) (fun _ => ?_)
    | refine Tot.next ?_ ?_
    | refine Tot.brk ?_
    | refine Tot.ret ?_
    | refine Tot.bind ?_
  all_goals grind
theorem eyeSomeTopic {o : shelf_eye} (h : o.rest_ = []) : Tot (shelf_some_api_Topic_o0__shelf_eye_topic_o0 o) (fun r => r.1 = [] ∧ r.2.bad_ = true ∧ r.2.rest_ = []) := by
  unfold shelf_some_api_Topic_o0__shelf_eye_topic_o0
  refine Tot.bind ((eyeId h).mono fun x hx => ?_)
  obtain ⟨h1, h2, h3⟩ := hx
  rw [h1, h3]
  refine Tot.cut (fun v => v.bad_ = true ∧ v.rest_ = []) (Tot.ite (fun _ => Tot.ret ⟨rfl, h3⟩) fun _ => Tot.ret ⟨h2, h3⟩) fun v hv => ?_
  rw [loopO_eq]
  dsimp only
  rw [if_neg (by simp)]
  exact Tot.ret ⟨rfl, hv⟩
theorem eyeSomeLast {o : shelf_eye} (h : o.rest_ = []) : Tot (shelf_some_api_Last_o0__shelf_eye_last_o0 o) (fun r => r.1 = [] ∧ r.2.bad_ = true ∧ r.2.rest_ = []) := by
  unfold shelf_some_api_Last_o0__shelf_eye_last_o0
  refine Tot.bind ((eyeId h).mono fun x hx => ?_)
  obtain ⟨h1, h2, h3⟩ := hx
  rw [h1, h3]
  refine Tot.cut (fun v => v.bad_ = true ∧ v.rest_ = []) (Tot.ite (fun _ => Tot.ret ⟨rfl, h3⟩) fun _ => Tot.ret ⟨h2, h3⟩) fun v hv => ?_
  rw [loopO_eq]
  dsimp only
  rw [if_neg (by simp)]
  exact Tot.ret ⟨rfl, hv⟩
theorem eyeSomeSub {o : shelf_eye} (h : o.rest_ = []) : Tot (shelf_some_api_Sub_o0__shelf_eye_sub_o0 o) (fun r => r.1 = [] ∧ r.2.bad_ = true ∧ r.2.rest_ = []) := by
  unfold shelf_some_api_Sub_o0__shelf_eye_sub_o0
  refine Tot.bind ((eyeId h).mono fun x hx => ?_)
  obtain ⟨h1, h2, h3⟩ := hx
  rw [h1, h3]
  refine Tot.cut (fun v => v.bad_ = true ∧ v.rest_ = []) (Tot.ite (fun _ => Tot.ret ⟨rfl, h3⟩) fun _ => Tot.ret ⟨h2, h3⟩) fun v hv => ?_
  rw [loopO_eq]
  dsimp only
  rw [if_neg (by simp)]
  exact Tot.ret ⟨rfl, hv⟩
theorem eyeSomeOut {o : shelf_eye} (h : o.rest_ = []) : Tot (shelf_some_api_Out_o0__shelf_eye_out_o0 o) (fun r => r.1 = [] ∧ r.2.bad_ = true ∧ r.2.rest_ = []) := by
  unfold shelf_some_api_Out_o0__shelf_eye_out_o0
  refine Tot.bind ((eyeId h).mono fun x hx => ?_)
  obtain ⟨h1, h2, h3⟩ := hx
  rw [h1, h3]
  refine Tot.cut (fun v => v.bad_ = true ∧ v.rest_ = []) (Tot.ite (fun _ => Tot.ret ⟨rfl, h3⟩) fun _ => Tot.ret ⟨h2, h3⟩) fun v hv => ?_
  rw [loopO_eq]
  dsimp only
  rw [if_neg (by simp)]
  exact Tot.ret ⟨rfl, hv⟩
theorem eyeSomeDead {o : shelf_eye} (h : o.rest_ = []) : Tot (shelf_some_api_Dead_o0__shelf_eye_dead_o0 o) (fun r => r.1 = [] ∧ r.2.bad_ = true ∧ r.2.rest_ = []) := by
  unfold shelf_some_api_Dead_o0__shelf_eye_dead_o0
  refine Tot.bind ((eyeId h).mono fun x hx => ?_)
  obtain ⟨h1, h2, h3⟩ := hx
  rw [h1, h3]
  refine Tot.cut (fun v => v.bad_ = true ∧ v.rest_ = []) (Tot.ite (fun _ => Tot.ret ⟨rfl, h3⟩) fun _ => Tot.ret ⟨h2, h3⟩) fun v hv => ?_
  rw [loopO_eq]
  dsimp only
  rw [if_neg (by simp)]
  exact Tot.ret ⟨rfl, hv⟩
theorem takeNil : Tot (shelf_Take []) (fun r => r.2 = 2) := by
  unfold shelf_Take shelf_eye_router_o0
  refine Tot.bind (Tot.bind ((eyeNumber (o := ⟨[], false⟩) rfl).mono fun x1 h1 => ?_))
  refine Tot.bind ((eyeSomeTopic h1.2).mono fun x3 h3 => ?_)
  refine Tot.bind ((eyeSomeLast h3.2.2).mono fun x5 h5 => ?_)
  refine Tot.bind ((eyeSomeSub h5.2.2).mono fun x7 h7 => ?_)
  refine Tot.bind ((eyeNumber h7.2.2).mono fun x9 h9 => ?_)
  refine Tot.bind ((eyeSomeOut h9.2).mono fun x11 h11 => ?_)
  refine Tot.bind ((eyeSomeOut h11.2.2).mono fun x13 h13 => ?_)
  refine Tot.bind ((eyeSomeDead h13.2.2).mono fun x15 h15 => Tot.ret ?_)
  have hw : shelf_eye_whole x15.2 = false := by unfold shelf_eye_whole; rw [h15.2.1]; rfl
  dsimp only
  rw [hw]
  refine Tot.bind (Tot.ite (fun c => by simp at c) fun _ => Tot.ret ?_)
  exact Tot.ite (fun _ => Tot.ret rfl) fun c => by simp at c
theorem few0 : few_Router z_api_Router := by
  have k : inK .i64 0 := by decide
  exact ⟨k, okL.nil, okL.nil, okL.nil, k, okL.nil, okL.nil, okL.nil⟩
theorem check0 : Tot (route_Check z_api_Router) (fun e => e = 0) := by
  have k : inK .i64 0 := by decide
  have t : Tot (topic_Check []) (fun e => e = 0) := by
    unfold topic_Check; rw [loopO_eq]; dsimp only; exact ⟨0, rfl, rfl⟩
  have d : Tot (dedup_Check []) (fun e => e = 0) := by
    unfold dedup_Check; rw [loopO_eq]; dsimp only; exact ⟨0, rfl, rfl⟩
  have x : Tot (outbox_Check []) (fun e => e = 0) := by
    unfold outbox_Check; rw [loopO_eq]; dsimp only; exact ⟨0, rfl, rfl⟩
  have s : Tot (route_maySubs z_api_Router) (fun e => e = true) := by
    unfold route_maySubs; rw [loopO_eq]; dsimp only [z_api_Router]; exact ⟨true, rfl, rfl⟩
  have u : Tot (route_mayDead z_api_Router) (fun e => e = true) := by
    unfold route_mayDead; rw [loopO_eq]; dsimp only [z_api_Router]; exact ⟨true, rfl, rfl⟩
  have o : Tot (route_mayOut z_api_Router) (fun e => e = true) := by
    unfold route_mayOut
    refine Tot.cut (fun e => e = 0) ?_ fun x4 h4 => Tot.cut (fun e => e = 0) ?_ fun x11 h11 => ?_
    · exact Tot.ite (fun _ => x) (fun _ => Tot.ret rfl)
    · exact Tot.ite (fun _ => x) (fun _ => Tot.ret rfl)
    subst h4 h11
    refine Tot.ite (fun c => absurd c (by decide)) fun _ => ?_
    refine Tot.cut (fun e => e = Sum.inr ()) (Tot.loop (fun i => 0 ≤ i ∧ i ≤ 2) (fun i => (2 - i).toNat) ⟨by omega, by omega⟩ ?_) ?_
    · rintro i hI
      have hn : i < 2 → (nth [z_api_Router.Out, z_api_Router.Given] i) = [] := fun hi => by
        unfold nth
        rcases (by omega : i = 0 ∨ i = 1) with rfl | rfl <;> rfl
      repeat' first
        | dsimp only
        | refine Tot.gd ?_ (fun _ => ?_)
        | refine Tot.ite (fun _ => ?_) (fun _ => ?_)
        | refine Tot.next ?_ ?_
        | refine Tot.brk ?_
        | refine Tot.ret ?_
        | refine Tot.bind ?_
      all_goals grind [okL, okS, wrap64]
    · rintro e rfl
      dsimp only
      rw [loopO_eq]; dsimp only [z_api_Router]; exact ⟨true, rfl, rfl⟩
  have n0 : z_api_Router.Now = 0 := rfl
  unfold route_Check
  repeat' first
    | dsimp only
    | refine (t).mono (fun _ _ => ?_)
    | refine (d).mono (fun _ _ => ?_)
    | refine (s).mono (fun _ _ => ?_)
    | refine (o).mono (fun _ _ => ?_)
    | refine (u).mono (fun _ _ => ?_)
    | refine Tot.gd ?_ (fun _ => ?_)
    | refine Tot.ite (fun _ => ?_) (fun _ => ?_)
    | refine Tot.next ?_ ?_
    | refine Tot.brk ?_
    | refine Tot.ret ?_
    | refine Tot.bind ?_
  all_goals grind
theorem lay0 : Tot (shelf_Lay z_api_Router) (fun x => x = ([0, 0, 0, 0, 0, 0, 0, 0], 0)) := by
  have hc : CR z_api_Router := fun u hu => by simp [z_api_Router] at hu
  have hr : routerL z_api_Router = [0, 0, 0, 0, 0, 0, 0, 0] := by
    have n0 : numL 0 = [0] := by unfold numL foldN; rw [packN_lt (by decide)]; rfl
    have l0 : ∀ {α : Type} (f : α → Str), listL f [] = [0] := fun f => by unfold listL; rw [packN_lt (by simp)]; rfl
    unfold routerL
    simp only [z_api_Router, n0, l0]; rfl
  unfold shelf_Lay
  refine Tot.bind (check0.mono fun e he => ?_)
  subst he
  refine Tot.ite (fun c => absurd c (by decide)) fun _ => ?_
  refine Tot.bind ((penRouter (b := []) few0.ok (by omega) hc (by rw [hr]; decide)).mono fun x hx => ?_)
  have hx' : x = routerL z_api_Router := by simpa using hx
  rw [hr] at hx'
  subst hx'
  exact Tot.bind ((bldGet (by decide) (by decide)).mono fun y hy => Tot.ret (by rw [hy]))
def op10 : api_Op := ⟨10, [], z_api_Def, false, 0, 0⟩
theorem layOp0 : Tot (shelf_LayOp ⟨(10 : Int), [], z_api_Def, false, 0, 0⟩) (fun x => x = ([20, 0, 0, 0, 0], 0)) := by
  have k : inK .i64 0 := by decide
  have ku : inK .u64 0 := by decide
  have k10 : inK .i64 10 := by decide
  have hd : ok_Def 70 z_api_Def := ⟨Nat.zero_le _, okL.nil, okL.nil, Nat.zero_le _, ⟨Nat.zero_le _, k, k, k⟩⟩
  have ho : ok_Op 2001 op10 := ⟨k10, Nat.zero_le _, hd.up (by omega), ku, k⟩
  have hc : CO op10 := ⟨fun k => by simp [op10] at k, fun _ => rfl⟩
  have hr : opL op10 = [20, 0, 0, 0, 0] := by
    have n0 : numL 0 = [0] := by unfold numL foldN; rw [packN_lt (by decide)]; rfl
    have n10 : numL 10 = [20] := by unfold numL foldN; rw [packN_lt (by decide)]; rfl
    have i0 : idL 0 = [0] := by unfold idL; rw [packN_lt (by decide)]; rfl
    have t0 : textL [] = [0] := by unfold textL; rw [packN_lt (by decide)]; rfl
    unfold opL op10
    dsimp only
    rw [n0, n10, i0, t0]; rfl
  have hm : shelf_May op10 = some true := by unfold shelf_May; rfl
  show Tot (shelf_LayOp op10) _
  unfold shelf_LayOp
  rw [hm]
  refine Tot.bind (Tot.ret ?_)
  refine Tot.ite (fun c => absurd c (by decide)) fun _ => ?_
  refine Tot.bind ((penOp (b := []) ho (by omega) hc (by rw [hr]; decide)).mono fun x hx => ?_)
  have hx' : x = opL op10 := by simpa using hx
  rw [hr] at hx'
  subst hx'
  exact Tot.bind ((bldGet (by decide) (by decide)).mono fun y hy => Tot.ret (by rw [hy]))
theorem awake20 : Tot trystlaw20_awake (fun b => b = true) := by
  unfold trystlaw20_awake
  refine Tot.bind (lay0.mono fun x hx => ?_)
  subst hx
  refine Tot.bind (layOp0.mono fun x hx => ?_)
  subst hx
  refine Tot.bind (takeNil.mono fun x hx => Tot.ret ?_)
  rw [hx]; decide
/-- ShelfSame's data function answers yes. -/
structure ok_Two (N : Nat) (q : trystlaw20_Two) : Prop where
  a : ok_Router N q.A
  b : ok_Router N q.B
  o : ok_Op N q.O
  p : ok_Op N q.P
theorem CR.routerP {N : Nat} {r : api_Router} (h : ok_Router N r) (hc : CR r) : routerP r :=
  ⟨fun x hx => (inK_u64.1 (h.lasts.2 x hx).seq).1, fun u hu => ⟨fun p hp => ((hc u hu).1 p hp).pv, fun x hx => ⟨(hc u hu).2 x hx, fun k hk => (inK_u64.1 (((h.subs.2 u hu).insts.2 x hx).l.2 k hk).id).1⟩⟩,
   fun x hx => ⟨(inK_u64.1 (h.out.2 x hx).id).1, fun i hi => (inK_u64.1 ((h.out.2 x hx).ids.2 i hi)).1⟩,
   fun x hx => ⟨(inK_u64.1 (h.given_.2 x hx).id).1, fun i hi => (inK_u64.1 ((h.given_.2 x hx).ids.2 i hi)).1⟩⟩
theorem routerL_inj {a b : api_Router} (ha : few_Router a) (hb : few_Router b) (ca : CR a) (cb : CR b) : routerL a = routerL b ↔ a = b :=
  ⟨fun h => (routerDec a b [] [] (ca.routerP ha.ok) (cb.routerP hb.ok) (by rw [h])).1, fun h => by rw [h]⟩
theorem opL_inj {a b : api_Op} (ha : few_Op a) (hb : few_Op b) (ca : CO a) (cb : CO b) : opL a = opL b ↔ a = b :=
  ⟨fun h => (opDec a b [] [] (ca.opP ha.1) (cb.opP hb.1) (by rw [h])).1, fun h => by rw [h]⟩
theorem shelfSameTot {N : Nat} {q : trystlaw20_Two} (h : ok_Two N q) : Tot (trystlaw20_ShelfSame q) (fun b => b = true) := by
  unfold trystlaw20_ShelfSame
  refine Tot.bind ((law16Few h.a).mono fun a ha => ?_)
  refine Tot.bind ((law16Few h.b).mono fun b hb => ?_)
  refine Tot.bind ((law20Cut h.o).mono fun o ho => ?_)
  refine Tot.bind ((law20Cut h.p).mono fun p hp => ?_)
  refine Tot.bind ((shelfLay ha).mono fun s hs => ?_)
  refine Tot.bind ((shelfLay hb).mono fun t ht => ?_)
  obtain ⟨s1, s2, s3⟩ := hs
  obtain ⟨t1, t2, t3⟩ := ht
  refine Tot.cut (fun x => s.2 = 0 → t.2 = 0 → (x = true ↔ s.1 = t.1)) ?_ fun x22 h22 => ?_
  · refine Tot.ite (fun c => ?_) (fun c => Tot.ret (by grind))
    have c2 : s.2 = 0 ∧ t.2 = 0 := by simpa using c
    obtain ⟨e1, e2⟩ := s2 c2.1
    obtain ⟨e3, e4⟩ := t2 c2.2
    refine (same16 ha.ok (by omega) e1).mono fun r hr _ _ => ?_
    rw [hr, e2, e4, routerL_inj ha hb e1 e3]
  refine Tot.ite (fun c => ?_) fun _ => ?_
  · exfalso
    grind
  refine Tot.bind ((shelfLayOp ho).mono fun x hx => ?_)
  refine Tot.bind ((shelfLayOp hp).mono fun y hy => ?_)
  obtain ⟨x1, x2, x3⟩ := hx
  obtain ⟨y1, y2, y3⟩ := hy
  refine Tot.cut (fun z => x.2 = 0 → y.2 = 0 → (z = true ↔ x.1 = y.1)) ?_ fun x40 h40 => ?_
  · refine Tot.ite (fun c => ?_) (fun c => Tot.ret (by grind))
    have c2 : x.2 = 0 ∧ y.2 = 0 := by simpa using c
    obtain ⟨e1, e2⟩ := x2 c2.1
    obtain ⟨e3, e4⟩ := y2 c2.2
    refine (same20 ho.1 (by omega) e1).mono fun r hr _ _ => ?_
    rw [hr, e2, e4, opL_inj ho hp e1 e3]
  refine Tot.cut (fun b => b = true) (Tot.ite (fun c => awake20) (fun c => ?_)) fun x45 h45 => Tot.ret ?_
  · exfalso; grind
  · grind
end Go.Proofs
