/- Own work: what is looked at of a router is small. -/
import Derived.Test.YthdcblpadgdamaaGreatDoorTpBase
set_option linter.all false
namespace Go.Proofs
open Go Go.Trw
/-! ### Ranges of numbers, and sizes -/
def ok_Value (N : Nat) (v : api_Value) : Prop := inK .i64 v.N ∧ okS N v.S
structure ok_Topic (N : Nat) (x : api_Topic) : Prop where
  name : okS N x.Name
  first : inK .i64 x.First
  log : okL N (okS N) x.Log
structure ok_Last (N : Nat) (x : api_Last) : Prop where
  producer : okS N x.Producer
  seq : inK .u64 x.Seq
  offset : inK .i64 x.Offset
structure ok_Join (N : Nat) (x : api_Join) : Prop where
  kind : okS N x.Kind
  parts : inK .i64 x.Parts
  need : inK .i64 x.Need
  window : inK .i64 x.Window
inductive ok_Pred (N : Nat) : api_Pred → Prop
  | mk {o s v l} : okS N o → okS N s → ok_Value N v → l.length ≤ N → (∀ x ∈ l, ok_Pred N x) → ok_Pred N (.mk o s v l)
structure ok_Def (N : Nat) (x : api_Def) : Prop where
  name : okS N x.Name
  globs : okL N (okS N) x.Globs
  wher : okL N (ok_Pred N) x.Where
  key : okS N x.Key
  j : ok_Join N x.J
structure ok_Off (N : Nat) (x : api_Off) : Prop where
  topic : okS N x.Topic
  next : inK .i64 x.Next
structure ok_Kept (x : api_Kept) : Prop where
  part : inK .i64 x.Part
  id : inK .u64 x.Id
  at_ : inK .i64 x.At
structure ok_Inst (N : Nat) (x : api_Inst) : Prop where
  key : ok_Value N x.Key
  l : okL N ok_Kept x.L
structure ok_Sub (N : Nat) (x : api_Sub) : Prop where
  d : ok_Def N x.D
  offs : okL N (ok_Off N) x.Offs
  insts : okL N (ok_Inst N) x.Insts
  fails : inK .i64 x.Fails
  taken : inK .i64 x.Taken
  passes : inK .i64 x.Passes
  fires : inK .i64 x.Fires
  over : inK .i64 x.Over
structure ok_Out (N : Nat) (x : api_Out) : Prop where
  id : inK .u64 x.Id
  sub : okS N x.Sub
  ids : okL N (inK .u64) x.Ids
  tries : inK .i64 x.Tries
  due : inK .i64 x.Due
structure ok_Dead (N : Nat) (x : api_Dead) : Prop where
  sub : okS N x.Sub
  e : okS N x.E
structure ok_Router (N : Nat) (x : api_Router) : Prop where
  now : inK .i64 x.Now
  topics : okL N (ok_Topic N) x.Topics
  lasts : okL N (ok_Last N) x.Lasts
  subs : okL N (ok_Sub N) x.Subs
  total : inK .i64 x.Total
  out : okL N (ok_Out N) x.Out
  given_ : okL N (ok_Out N) x.Given
  dead : okL N (ok_Dead N) x.Dead
structure ok_Op (N : Nat) (x : api_Op) : Prop where
  kind : inK .i64 x.Kind
  s : okS N x.S
  d : ok_Def N x.D
  id : inK .u64 x.Id
  n : inK .i64 x.N
/-- What is looked at: lists and texts of at most this many. -/
abbrev FW : Nat := 4096
theorem law02Few (s : Str) : Tot (trystlaw02_Few s) (okS 60) := by
  unfold trystlaw02_Few
  repeat' first
    | dsimp only
    | refine Tot.gd ?_ (fun _ => ?_)
    | refine Tot.ite (fun _ => ?_) (fun _ => ?_)
    | refine Tot.next ?_ ?_
    | refine Tot.brk ?_
    | refine Tot.ret ?_
    | refine Tot.bind ?_
  all_goals grind [okL, okS, wrap64]
theorem law03Few {N : Nat} {v : api_Value} (h : ok_Value N v) : Tot (trystlaw03_Few v) (ok_Value 70) := by
  unfold trystlaw03_Few
  repeat' first
    | dsimp only
    | refine Tot.gd ?_ (fun _ => ?_)
    | refine Tot.ite (fun _ => ?_) (fun _ => ?_)
    | refine Tot.next ?_ ?_
    | refine Tot.brk ?_
    | refine Tot.ret ?_
    | refine Tot.bind ?_
  all_goals grind [okL, okS, wrap64, ok_Value]
theorem law09Kind {N : Nat} {v : api_Join} (h : ok_Join N v) : Tot (trystlaw09_Kind v) (ok_Join 10) := by
  obtain ⟨h1, h2, h3, h4⟩ := h
  unfold trystlaw09_Kind
  repeat' first
    | dsimp only
    | refine Tot.gd ?_ (fun _ => ?_)
    | refine Tot.ite (fun _ => ?_) (fun _ => ?_)
    | refine Tot.next ?_ ?_
    | refine Tot.brk ?_
    | refine Tot.ret ?_
    | refine Tot.bind ?_
  all_goals try refine ⟨?_, h2, h3, h4⟩
  all_goals grind [okL, okS, wrap64]
theorem law13Few {N : Nat} {l : List api_Last} (h : okL N (ok_Last N) l) : Tot (trystlaw13_Few l) (okL 51 (ok_Last 60)) := by
  unfold trystlaw13_Few
  refine Tot.bind ?_
  refine Tot.loop (fun (i, o) => 0 ≤ i ∧ i ≤ 51 ∧ o.length = i ∧ okL 51 (ok_Last 60) o) (fun (i, o) => (51 - i).toNat) ?_ ?_
  · exact ⟨by omega, by omega, rfl, okL.nil⟩
  rintro ⟨v, o⟩ hI
  repeat' first
    | dsimp only
    | refine (law02Few _).mono (fun _ _ => ?_)
    | refine Tot.gd ?_ (fun _ => ?_)
    | refine Tot.ite (fun _ => ?_) (fun _ => ?_)
    | refine Tot.next ?_ ?_
    | refine Tot.brk ?_
    | refine Tot.ret ?_
    | refine Tot.bind ?_
  all_goals grind [okL, okS, wrap64, okL.nth, ok_Last]
theorem law15One {N : Nat} {x : api_Out} (h : ok_Out N x) : Tot (trystlaw15_One x) (ok_Out 60) := by
  obtain ⟨h1, h2, h3, h4, h5⟩ := h
  unfold trystlaw15_One
  repeat' first
    | dsimp only
    | refine (law02Few _).mono (fun _ _ => ?_)
    | refine Tot.gd ?_ (fun _ => ?_)
    | refine Tot.ite (fun _ => ?_) (fun _ => ?_)
    | refine Tot.next ?_ ?_
    | refine Tot.brk ?_
    | refine Tot.ret ?_
    | refine Tot.bind ?_
  all_goals try refine ⟨h1, ?_, ?_, h4, h5⟩
  all_goals grind [okL, okS, wrap64]
theorem law15Few {N : Nat} {l : List api_Out} (h : okL N (ok_Out N) l) : Tot (trystlaw15_Few l) (okL 101 (ok_Out 60)) := by
  unfold trystlaw15_Few
  refine Tot.bind ?_
  refine Tot.loop (fun (i, o) => 0 ≤ i ∧ i ≤ 101 ∧ o.length = i ∧ okL 101 (ok_Out 60) o) (fun (i, o) => (101 - i).toNat) ?_ ?_
  · exact ⟨by omega, by omega, rfl, okL.nil⟩
  rintro ⟨v, o⟩ hI
  repeat' first
    | dsimp only
    | refine (law15One (h.nth (by grind) (by grind))).mono (fun _ _ => ?_)
    | refine Tot.gd ?_ (fun _ => ?_)
    | refine Tot.ite (fun _ => ?_) (fun _ => ?_)
    | refine Tot.next ?_ ?_
    | refine Tot.brk ?_
    | refine Tot.ret ?_
    | refine Tot.bind ?_
  all_goals grind [okL, okS, wrap64, okL.nth]
theorem PT.eta {β : Type} (p : PT β) : (⟨p.Op, p.S, p.V, p.L⟩ : PT β) = p := by cases p; rfl
section
variable {β : Type} (o s : Str) (v : β) (l x : List (PT β)) (p : PT β) (y : Str) (z : β)
@[simp, grind =] theorem PT.Op_mk : (PT.mk o s v l).Op = o := rfl
@[simp, grind =] theorem PT.S_mk : (PT.mk o s v l).S = s := rfl
@[simp, grind =] theorem PT.V_mk : (PT.mk o s v l).V = v := rfl
@[simp, grind =] theorem PT.L_mk : (PT.mk o s v l).L = l := rfl
@[simp, grind =] theorem PT.Op_setL : (p.setL x).Op = p.Op := by cases p; rfl
@[simp, grind =] theorem PT.S_setL : (p.setL x).S = p.S := by cases p; rfl
@[simp, grind =] theorem PT.V_setL : (p.setL x).V = p.V := by cases p; rfl
@[simp, grind =] theorem PT.L_setL : (p.setL x).L = x := by cases p; rfl
@[simp, grind =] theorem PT.Op_setOp : (p.setOp y).Op = y := by cases p; rfl
@[simp, grind =] theorem PT.S_setOp : (p.setOp y).S = p.S := by cases p; rfl
@[simp, grind =] theorem PT.V_setOp : (p.setOp y).V = p.V := by cases p; rfl
@[simp, grind =] theorem PT.L_setOp : (p.setOp y).L = p.L := by cases p; rfl
end
theorem ok_Pred.get {N : Nat} {p : api_Pred} (h : ok_Pred N p) : okS N p.Op ∧ okS N p.S ∧ ok_Value N p.V ∧ okL N (ok_Pred N) p.L := by
  cases h with
  | mk a b c d e => exact ⟨a, b, c, d, e⟩
theorem ok_Pred.put {N : Nat} {p : api_Pred} (h : okS N p.Op ∧ okS N p.S ∧ ok_Value N p.V ∧ okL N (ok_Pred N) p.L) : ok_Pred N p := by
  cases p; obtain ⟨a, b, c, d, e⟩ := h; exact .mk a b c d e
theorem law05few {N : Nat} : ∀ (n : Nat) (a0 : api_Pred) (a1 a2 : Int), ok_Pred N a0 → 0 ≤ a1 → a1 < n → a1 ≤ 1000 → a2 ≤ 1000 → -1000 ≤ a2 → Tot (trystlaw05_few n a0 a1 a2) (fun r => ok_Pred 70 r.1 ∧ r.2 < a2 ∧ (0 < a2 → 0 ≤ r.2)) := by
  intro n
  induction n with
  | zero => intros; omega
  | succ n ih =>
    intro a0 a1 a2 h h0 h1 h2 h3 h4
    obtain ⟨k1, k2, k3, k4⟩ := h.get
    unfold trystlaw05_few
    refine Tot.bind ((law02Few _).mono fun x1 hx1 => ?_)
    refine Tot.bind ((law03Few k3).mono fun x3 hx3 => ?_)
    refine Tot.bind (Tot.mono (P := fun p : api_Pred => okS 8 p.Op ∧ p.S = x1 ∧ p.V = x3) ?_ fun v7 hv7 => ?_)
    · repeat' first
        | dsimp only
        | refine Tot.gd ?_ (fun _ => ?_)
        | refine Tot.ite (fun _ => ?_) (fun _ => ?_)
        | refine Tot.next ?_ ?_
        | refine Tot.brk ?_
        | refine Tot.ret ?_
        | refine Tot.bind ?_
      all_goals grind [okL, okS, wrap64]
    refine Tot.bind (Tot.loop (fun (v25, v26, v27, v28) => 0 ≤ v26 ∧ v26 ≤ 3 ∧ v28.length = v26 ∧ okS 8 v27.Op ∧ v27.S = x1 ∧ v27.V = x3 ∧ okL 3 (ok_Pred 70) v28 ∧ v25 < a2 ∧ -1001 ≤ v25 ∧ (0 < a2 → 0 ≤ v25)) (fun (v25, v26, v27, v28) => (3 - v26).toNat) ?_ ?_)
    · exact ⟨by omega, by omega, rfl, hv7.1, hv7.2.1, hv7.2.2, okL.nil, by grind [okL, okS, wrap64], by grind [okL, okS, wrap64], by grind [okL, okS, wrap64]⟩
    rintro ⟨v25, v26, v27, v28⟩ hI
    by_cases c : a1 > 0 ∧ v25 > 0 ∧ 0 ≤ v26 ∧ v26 < (a0.L.length : Int)
    · have hw : IntKind.i64.wrap (a1 - 1) = a1 - 1 := wrap64 (by omega) (by omega)
      have := ih (nth a0.L v26) (IntKind.i64.wrap (a1 - 1)) v25 (k4.nth c.2.2.1 c.2.2.2) (by omega) (by omega) (by omega) (by grind [okL, okS, wrap64]) (by grind [okL, okS, wrap64])
      repeat' first
        | dsimp only
        | refine (this).mono (fun _ _ => ?_)
        | refine Tot.gd ?_ (fun _ => ?_)
        | refine Tot.ite (fun _ => ?_) (fun _ => ?_)
        | refine Tot.next ?_ ?_
        | refine Tot.brk ?_
        | refine Tot.ret ?_
        | refine Tot.bind ?_
      all_goals clear this ih hw
      all_goals try refine ⟨ok_Pred.put ?_, ?_⟩
      all_goals grind [okL, okS, wrap64, ok_Value]
    · repeat' first
        | dsimp only
        | refine Tot.gd ?_ (fun _ => ?_)
        | refine Tot.ite (fun _ => ?_) (fun _ => ?_)
        | refine Tot.next ?_ ?_
        | refine Tot.brk ?_
        | refine Tot.ret ?_
        | refine Tot.bind ?_
      all_goals clear ih
      all_goals try refine ⟨ok_Pred.put ?_, ?_⟩
      all_goals grind [okL, okS, wrap64, ok_Value]
theorem law05Few {N : Nat} {p : api_Pred} (h : ok_Pred N p) : Tot (trystlaw05_Few p) (ok_Pred 70) := by
  unfold trystlaw05_Few
  refine Tot.bind ((law05few FUEL p 9 50 h (by omega) (by simp [FUEL]) (by omega) (by omega) (by omega)).mono fun r hr => ?_)
  exact Tot.ret hr.1
theorem law14Few {N : Nat} {d : api_Def} (h : ok_Def N d) : Tot (trystlaw14_Few d) (fun d => ok_Def 70 d ∧ d.Where.length ≤ 7) := by
  obtain ⟨h1, h2, h3, h4, h5⟩ := h
  unfold trystlaw14_Few
  refine Tot.bind ((law02Few _).mono fun x1 hx1 => ?_)
  refine Tot.bind ((law02Few _).mono fun x3 hx3 => ?_)
  refine Tot.bind ((law09Kind h5).mono fun x5 hx5 => ?_)
  refine Tot.cut (okL 6 (okS 60)) (Tot.loop (fun (i, o) => 0 ≤ i ∧ i ≤ 6 ∧ o.length = i ∧ okL 6 (okS 60) o) (fun (i, o) => (6 - i).toNat) ?_ ?_) fun v25 hv => ?_
  · exact ⟨by omega, by omega, rfl, okL.nil⟩
  · rintro ⟨v, o⟩ hI
    repeat' first
      | dsimp only
      | refine (law02Few _).mono (fun _ _ => ?_)
      | refine Tot.gd ?_ (fun _ => ?_)
      | refine Tot.ite (fun _ => ?_) (fun _ => ?_)
      | refine Tot.next ?_ ?_
      | refine Tot.brk ?_
      | refine Tot.ret ?_
      | refine Tot.bind ?_
    all_goals grind [okL, okS, wrap64]
  refine Tot.cut (okL 7 (ok_Pred 70)) (Tot.loop (fun (i, o) => 0 ≤ i ∧ i ≤ 7 ∧ o.length = i ∧ okL 7 (ok_Pred 70) o) (fun (i, o) => (7 - i).toNat) ?_ ?_) fun v53 hw => ?_
  · exact ⟨by omega, by omega, rfl, okL.nil⟩
  · rintro ⟨v2, o2⟩ hJ
    repeat' first
      | dsimp only
      | refine (law05Few (h3.nth (by grind) (by grind))).mono (fun _ _ => ?_)
      | refine Tot.gd ?_ (fun _ => ?_)
      | refine Tot.ite (fun _ => ?_) (fun _ => ?_)
      | refine Tot.next ?_ ?_
      | refine Tot.brk ?_
      | refine Tot.ret ?_
      | refine Tot.bind ?_
    all_goals grind [okL, okS, wrap64]
  refine Tot.ret ?_
  grind [okL, okS, wrap64, ok_Def, ok_Join]
theorem law14Offs {N : Nat} {l : List api_Off} (h : okL N (ok_Off N) l) : Tot (trystlaw14_Offs l) (okL 21 (ok_Off 60)) := by
  unfold trystlaw14_Offs
  refine Tot.bind ?_
  refine Tot.loop (fun (i, o) => 0 ≤ i ∧ i ≤ 21 ∧ o.length = i ∧ okL 21 (ok_Off 60) o) (fun (i, o) => (21 - i).toNat) ?_ ?_
  · exact ⟨by omega, by omega, rfl, okL.nil⟩
  rintro ⟨v, o⟩ hI
  repeat' first
    | dsimp only
    | refine (law02Few _).mono (fun _ _ => ?_)
    | refine Tot.gd ?_ (fun _ => ?_)
    | refine Tot.ite (fun _ => ?_) (fun _ => ?_)
    | refine Tot.next ?_ ?_
    | refine Tot.brk ?_
    | refine Tot.ret ?_
    | refine Tot.bind ?_
  all_goals grind [okL, okS, wrap64, okL.nth, ok_Off]
theorem law09Few {N : Nat} {l : List api_Kept} (h : okL N ok_Kept l) : Tot (trystlaw09_Few l) (okL 31 ok_Kept) := by
  unfold trystlaw09_Few
  repeat' first
    | dsimp only
    | refine Tot.gd ?_ (fun _ => ?_)
    | refine Tot.ite (fun _ => ?_) (fun _ => ?_)
    | refine Tot.next ?_ ?_
    | refine Tot.brk ?_
    | refine Tot.ret ?_
    | refine Tot.bind ?_
  all_goals grind [okL, okS, wrap64]
theorem law10Few {N : Nat} {l : List api_Inst} (h : okL N (ok_Inst N) l) : Tot (trystlaw10_Few l) (okL 41 (ok_Inst 70)) := by
  unfold trystlaw10_Few
  refine Tot.bind ?_
  refine Tot.loop (fun (i, o) => 0 ≤ i ∧ i ≤ 41 ∧ o.length = i ∧ okL 41 (ok_Inst 70) o) (fun (i, o) => (41 - i).toNat) ?_ ?_
  · exact ⟨by omega, by omega, rfl, okL.nil⟩
  rintro ⟨v, o⟩ hI
  repeat' first
    | dsimp only
    | refine (law03Few (h.nth (by grind) (by grind)).key).mono (fun _ _ => ?_)
    | refine (law09Few (h.nth (by grind) (by grind)).l).mono (fun _ _ => ?_)
    | refine Tot.gd ?_ (fun _ => ?_)
    | refine Tot.ite (fun _ => ?_) (fun _ => ?_)
    | refine Tot.next ?_ ?_
    | refine Tot.brk ?_
    | refine Tot.ret ?_
    | refine Tot.bind ?_
  all_goals grind [okL, okS, wrap64, ok_Inst]
theorem law12Few {N : Nat} {l : List api_Topic} (h : okL N (ok_Topic N) l) : Tot (trystlaw12_Few__own l) (okL 21 (ok_Topic 900)) := by
  unfold trystlaw12_Few__own
  refine Tot.bind ?_
  refine Tot.loop (fun (i, o) => 0 ≤ i ∧ i ≤ 21 ∧ o.length = i ∧ okL 21 (ok_Topic 900) o) (fun (i, o) => (21 - i).toNat) ?_ ?_
  · exact ⟨by omega, by omega, rfl, okL.nil⟩
  rintro ⟨v, o⟩ hI
  repeat' first
    | dsimp only
    | refine (law02Few _).mono (fun _ _ => ?_)
    | refine Tot.gd ?_ (fun _ => ?_)
    | refine Tot.ite (fun _ => ?_) (fun _ => ?_)
    | refine Tot.next ?_ ?_
    | refine Tot.brk ?_
    | refine Tot.ret ?_
    | refine Tot.bind ?_
  all_goals try grind [okL, okS, wrap64]
  rename_i k1 k2 x hx k3
  refine Tot.loop (fun (i, o) => 0 ≤ i ∧ i ≤ 101 ∧ o.length = i ∧ okL 101 (okS 900) o) (fun (i, o) => (101 - i).toNat) ?_ ?_
  · exact ⟨by omega, by omega, rfl, okL.nil⟩
  rintro ⟨v2, o2⟩ hJ
  have hf := (h.nth k2.1 k2.2).first
  repeat' first
    | dsimp only
    | refine Tot.gd ?_ (fun _ => ?_)
    | refine Tot.ite (fun _ => ?_) (fun _ => ?_)
    | refine Tot.next ?_ ?_
    | refine Tot.brk ?_
    | refine Tot.ret ?_
    | refine Tot.bind ?_
  all_goals grind [okL, okS, wrap64, ok_Topic]
theorem ok_Value.up {N M : Nat} {x : api_Value} (h : ok_Value N x) (k : N ≤ M) : ok_Value M x := ⟨h.1, Nat.le_trans h.2 k⟩
theorem ok_Join.up {N M : Nat} {x : api_Join} (h : ok_Join N x) (k : N ≤ M) : ok_Join M x := ⟨Nat.le_trans h.1 k, h.2, h.3, h.4⟩
theorem ok_Pred.up {N M : Nat} (k : N ≤ M) {x : api_Pred} (h : ok_Pred N x) : ok_Pred M x := by
  induction h with
  | mk a b c d e ih => exact .mk (Nat.le_trans a k) (Nat.le_trans b k) (c.up k) (Nat.le_trans d k) ih
theorem ok_Def.up {N M : Nat} {x : api_Def} (h : ok_Def N x) (k : N ≤ M) : ok_Def M x := ⟨Nat.le_trans h.1 k, h.2.mono k (fun _ h => Nat.le_trans h k), h.3.mono k (fun _ h => h.up k), Nat.le_trans h.4 k, h.5.up k⟩
theorem ok_Off.up {N M : Nat} {x : api_Off} (h : ok_Off N x) (k : N ≤ M) : ok_Off M x := ⟨Nat.le_trans h.1 k, h.2⟩
theorem ok_Inst.up {N M : Nat} {x : api_Inst} (h : ok_Inst N x) (k : N ≤ M) : ok_Inst M x := ⟨h.1.up k, h.2.mono k (fun _ h => h)⟩
theorem ok_Sub.up {N M : Nat} {x : api_Sub} (h : ok_Sub N x) (k : N ≤ M) : ok_Sub M x := ⟨h.1.up k, h.2.mono k (fun _ h => h.up k), h.3.mono k (fun _ h => h.up k), h.4, h.5, h.6, h.7, h.8⟩
theorem ok_Out.up {N M : Nat} {x : api_Out} (h : ok_Out N x) (k : N ≤ M) : ok_Out M x := ⟨h.1, Nat.le_trans h.2 k, h.3.mono k (fun _ h => h), h.4, h.5⟩
/-- What is left of a router of which no more is looked at than may be. -/
structure few_Router (r : api_Router) : Prop where
  now : inK .i64 r.Now
  topics : okL 21 (fun t => ok_Topic 900 t ∧ t.Log.length ≤ 12) r.Topics
  lasts : okL 51 (ok_Last 60) r.Lasts
  subs : okL 9 (fun u => ok_Sub 70 u ∧ u.D.Where.length ≤ 7) r.Subs
  total : inK .i64 r.Total
  out : okL 101 (ok_Out 60) r.Out
  given_ : okL 101 (ok_Out 60) r.Given
  dead : okL 41 (ok_Dead 900) r.Dead
theorem few_Router.ok {r : api_Router} (h : few_Router r) : ok_Router 900 r :=
  ⟨h.now, h.topics.mono (by omega) (fun _ h => h.1), h.lasts.mono (by omega) (fun _ h => ⟨Nat.le_trans h.1 (by omega), h.2, h.3⟩), h.subs.mono (by omega) (fun _ h => h.1.up (by omega)), h.total, h.out.mono (by omega) (fun _ h => h.up (by omega)), h.given_.mono (by omega) (fun _ h => h.up (by omega)), h.dead.mono (by omega) (fun _ h => h)⟩
theorem law16Few {N : Nat} {r : api_Router} (h : ok_Router N r) : Tot (trystlaw16_Few r) few_Router := by
  obtain ⟨h1, h2, h3, h4, h5, h6, h7, h8⟩ := h
  unfold trystlaw16_Few
  refine Tot.bind ((law12Few h2).mono fun x1 hx1 => ?_)
  refine Tot.bind ((law13Few h3).mono fun x3 hx3 => ?_)
  refine Tot.bind ((law15Few h6).mono fun x5 hx5 => ?_)
  refine Tot.bind ((law15Few h7).mono fun x7 hx7 => ?_)
  refine Tot.cut (okL 21 (fun t => ok_Topic 900 t ∧ t.Log.length ≤ 12)) (Tot.loop (fun (i, o) => 0 ≤ i ∧ i ≤ o.length ∧ okL 21 (ok_Topic 900) o ∧ upTo (fun t => t.Log.length ≤ 12) o i) (fun (i, o) => (o.length - i).toNat) ?_ ?_) ?_
  · exact ⟨by omega, by omega, hx1, upTo.zero⟩
  · rintro ⟨v, o⟩ ⟨i1, i2, i3, i4⟩
    have hn : v < (o.length : Int) → ok_Topic 900 (nth o v) := fun hv => i3.nth i1 hv
    repeat' first
      | dsimp only
      | refine Tot.gd ?_ (fun _ => ?_)
      | refine Tot.ite (fun _ => ?_) (fun _ => ?_)
      | refine Tot.next ?_ ?_
      | refine Tot.brk ?_
      | refine Tot.ret ?_
      | refine Tot.bind ?_
    all_goals first
      | (rename_i e1; exact ⟨i3.1, fun x hx => ⟨i3.2 x hx, i4.all (by simpa using e1) x hx⟩⟩)
      | grind [okL, okS, wrap64, ok_Topic, List.mem_or_eq_of_mem_set, upTo.set, upTo.step]
  intro v23 hv23
  refine Tot.cut (okL 9 (fun u => ok_Sub 70 u ∧ u.D.Where.length ≤ 7)) (Tot.loop (fun (i, o) => 0 ≤ i ∧ i ≤ 9 ∧ o.length = i ∧ okL 9 (fun u => ok_Sub 70 u ∧ u.D.Where.length ≤ 7) o) (fun (i, o) => (9 - i).toNat) ?_ ?_) ?_
  · exact ⟨by omega, by omega, rfl, okL.nil⟩
  · rintro ⟨v, o⟩ hI
    have hn : v < (r.Subs.length : Int) → ok_Sub N (nth r.Subs v) := fun hv => h4.nth hI.1 hv
    repeat' first
      | dsimp only
      | refine (law14Few (h4.nth (by grind) (by grind)).d).mono (fun _ _ => ?_)
      | refine ((law14Offs (h4.nth (by grind) (by grind)).offs).mono (P := okL 21 (ok_Off 60)) (Q := okL 70 (ok_Off 70)) (fun _ h => h.mono (by omega) (fun _ h => h.up (by omega)))).mono (fun _ _ => ?_)
      | refine ((law10Few (h4.nth (by grind) (by grind)).insts).mono (Q := okL 70 (ok_Inst 70)) (fun _ h => h.mono (by omega) (fun _ h => h))).mono (fun _ _ => ?_)
      | refine Tot.gd ?_ (fun _ => ?_)
      | refine Tot.ite (fun _ => ?_) (fun _ => ?_)
      | refine Tot.next ?_ ?_
      | refine Tot.brk ?_
      | refine Tot.ret ?_
      | refine Tot.bind ?_
    all_goals grind [okL, okS, wrap64, ok_Sub]
  intro v59 hJ
  refine Tot.cut (okL 41 (ok_Dead 900)) (Tot.loop (fun (i, o) => 0 ≤ i ∧ i ≤ 41 ∧ o.length = i ∧ okL 41 (ok_Dead 900) o) (fun (i, o) => (41 - i).toNat) ?_ ?_) ?_
  · exact ⟨by omega, by omega, rfl, okL.nil⟩
  · rintro ⟨v, o⟩ hI
    repeat' first
      | dsimp only
      | refine (law02Few _).mono (fun _ _ => ?_)
      | refine Tot.gd ?_ (fun _ => ?_)
      | refine Tot.ite (fun _ => ?_) (fun _ => ?_)
      | refine Tot.next ?_ ?_
      | refine Tot.brk ?_
      | refine Tot.ret ?_
      | refine Tot.bind ?_
    all_goals grind [okL, okS, wrap64, ok_Dead]
  intro v95 hK
  exact Tot.ret ⟨h1, hv23, hx3, hJ, h5, hx5, hx7, hK⟩
def few_Op (o : api_Op) : Prop := ok_Op 2001 o ∧ ok_Def 70 o.D ∧ o.D.Where.length ≤ 7
theorem law20Cut {N : Nat} {r : api_Op} (h : ok_Op N r) : Tot (trystlaw20_Cut r) few_Op := by
  obtain ⟨h1, h2, h3, h4, h5⟩ := h
  unfold trystlaw20_Cut
  repeat' first
    | dsimp only
    | refine ((law14Few h3).mono (Q := fun d => ok_Def 2001 d ∧ ok_Def 70 d ∧ d.Where.length ≤ 7) (fun _ h => ⟨h.1.up (by omega), h⟩)).mono (fun _ _ => ?_)
    | refine Tot.gd ?_ (fun _ => ?_)
    | refine Tot.ite (fun _ => ?_) (fun _ => ?_)
    | refine Tot.next ?_ ?_
    | refine Tot.brk ?_
    | refine Tot.ret ?_
    | refine Tot.bind ?_
  all_goals grind [okL, okS, wrap64, ok_Op, few_Op]
end Go.Proofs
