/- Own work: a router is looked at without fail; what OK says. -/
import Derived.Test.YthdcblpadgdamaaGreatDoorTpPred
set_option linter.all false
namespace Go.Proofs
open Go Go.Trw
theorem offsMay_ (o : api_Off) : Tot (offs_may o) (fun _ => True) := by
  unfold offs_may
  repeat' first
    | dsimp only
    | refine (nameTopic _).mono (fun _ _ => ?_)
    | refine Tot.gd ?_ (fun _ => ?_)
    | refine Tot.ite (fun _ => ?_) (fun _ => ?_)
    | refine Tot.next ?_ ?_
    | refine Tot.brk ?_
    | refine Tot.ret ?_
    | refine Tot.bind ?_
theorem offsAllOff (l : List api_Off) (h : l.length ≤ 16777216) : Tot (offs_all_api_Off__offs_Check_1 l) (fun _ => True) := by
  unfold offs_all_api_Off__offs_Check_1 offs_Check_1
  refine Tot.bind (Tot.loop (fun i => 0 ≤ i ∧ i ≤ (l.length : Int)) (fun i => (l.length - i).toNat) ⟨by omega, by omega⟩ ?_)
  rintro i hI
  repeat' first
    | dsimp only
    | refine (offsMay_ _).mono (fun _ _ => ?_)
    | refine Tot.gd ?_ (fun _ => ?_)
    | refine Tot.ite (fun _ => ?_) (fun _ => ?_)
    | refine Tot.next ?_ ?_
    | refine Tot.brk ?_
    | refine Tot.ret ?_
    | refine Tot.bind ?_
  all_goals grind [okL, okS, wrap64]
theorem offsCheck (l : List api_Off) (h : l.length ≤ 16777216) : Tot (offs_Check l) (fun _ => True) := by
  unfold offs_Check
  refine Tot.bind (Tot.ite (fun _ => (offsAllOff l h).mono fun _ _ => ?_) (fun _ => Tot.ret ?_))
  all_goals refine Tot.ite (fun _ => Tot.ret trivial) fun _ => ?_
  all_goals
    refine Tot.bind (Tot.loop (fun i => 1 ≤ i ∧ (i ≤ (l.length : Int) ∨ i = 1)) (fun i => (l.length - i).toNat) ⟨by omega, by omega⟩ ?_)
    rintro i hI
    repeat' first
      | dsimp only
      | refine Tot.gd ?_ (fun _ => ?_)
      | refine Tot.ite (fun _ => ?_) (fun _ => ?_)
      | refine Tot.next ?_ ?_
      | refine Tot.brk ?_
      | refine Tot.ret ?_
      | refine Tot.bind ?_
    all_goals grind [okL, okS, wrap64]
theorem topicIdx (l : List api_Topic) (s : Str) (h : l.length ≤ 16777216) : Tot (slices_IndexFunc_api_Topic_api_Topic__topic_Find_1 l s) (fun i => i = -1 ∨ (0 ≤ i ∧ i < l.length)) := by
  unfold slices_IndexFunc_api_Topic_api_Topic__topic_Find_1
  refine Tot.bind (Tot.loop (fun i => 0 ≤ i ∧ i ≤ (l.length : Int)) (fun i => (l.length - i).toNat) ⟨by omega, by omega⟩ ?_)
  rintro i hI
  repeat' first
    | dsimp only
    | refine Tot.gd ?_ (fun _ => ?_)
    | refine Tot.ite (fun _ => ?_) (fun _ => ?_)
    | refine Tot.next ?_ ?_
    | refine Tot.brk ?_
    | refine Tot.ret ?_
    | refine Tot.bind ?_
  all_goals grind [okL, okS, wrap64]
theorem topicFind (l : List api_Topic) (s : Str) (h : l.length ≤ 16777216) : Tot (topic_Find l s) (fun r => r.2 = true → (0 ≤ r.1 ∧ r.1 < l.length)) := by
  unfold topic_Find
  repeat' first
    | dsimp only
    | refine (topicIdx l s h).mono (fun _ _ => ?_)
    | refine Tot.gd ?_ (fun _ => ?_)
    | refine Tot.ite (fun _ => ?_) (fun _ => ?_)
    | refine Tot.next ?_ ?_
    | refine Tot.brk ?_
    | refine Tot.ret ?_
    | refine Tot.bind ?_
  all_goals grind
theorem routeRead (l : List api_Off) (t : List api_Topic) (h : l.length ≤ 16777216) (ht : t.length ≤ 16777216) : Tot (route_read l t) (fun _ => True) := by
  unfold route_read
  repeat' first
    | dsimp only
    | refine (offsCheck l h).mono (fun _ _ => ?_)
    | refine Tot.gd ?_ (fun _ => ?_)
    | refine Tot.ite (fun _ => ?_) (fun _ => ?_)
    | refine Tot.next ?_ ?_
    | refine Tot.brk ?_
    | refine Tot.ret ?_
    | refine Tot.bind ?_
  refine Tot.loop (fun i => 0 ≤ i ∧ i ≤ (l.length : Int)) (fun i => (l.length - i).toNat) ⟨by omega, by omega⟩ ?_
  rintro i hI
  repeat' first
    | dsimp only
    | refine (topicFind t _ ht).mono (fun _ _ => ?_)
    | refine Tot.gd ?_ (fun _ => ?_)
    | refine Tot.ite (fun _ => ?_) (fun _ => ?_)
    | refine Tot.next ?_ ?_
    | refine Tot.brk ?_
    | refine Tot.ret ?_
    | refine Tot.bind ?_
  all_goals grind [okL, okS, wrap64]
theorem instCount (l : List api_Inst) (h : l.length ≤ 16777216) : Tot (inst_Count l) (fun _ => True) := by
  unfold inst_Count
  refine Tot.bind (Tot.loop (fun (c, i) => 0 ≤ i ∧ i ≤ (l.length : Int)) (fun (c, i) => (l.length - i).toNat) ⟨by omega, by omega⟩ ?_)
  rintro ⟨c, i⟩ hI
  repeat' first
    | dsimp only
    | refine Tot.gd ?_ (fun _ => ?_)
    | refine Tot.ite (fun _ => ?_) (fun _ => ?_)
    | refine Tot.next ?_ ?_
    | refine Tot.brk ?_
    | refine Tot.ret ?_
    | refine Tot.bind ?_
  all_goals grind [okL, okS, wrap64]
theorem routeCounted {N : Nat} {u : api_Sub} (h : ok_Sub N u) (hN : N ≤ 16777216) : Tot (route_counted u) (fun _ => True) := by
  unfold route_counted
  repeat' first
    | dsimp only
    | refine (instCount _ (Nat.le_trans h.insts.1 hN)).mono (fun _ _ => ?_)
    | refine Tot.gd ?_ (fun _ => ?_)
    | refine Tot.ite (fun _ => ?_) (fun _ => ?_)
    | refine Tot.next ?_ ?_
    | refine Tot.brk ?_
    | refine Tot.ret ?_
    | refine Tot.bind ?_
theorem joinEarly (l : List api_Kept) (a : Int) (h : l.length ≤ 16777216) : Tot (join_early l a) (fun _ => True) := by
  unfold join_early
  repeat' first
    | dsimp only
    | refine Tot.gd ?_ (fun _ => ?_)
    | refine Tot.ite (fun _ => ?_) (fun _ => ?_)
    | refine Tot.next ?_ ?_
    | refine Tot.brk ?_
    | refine Tot.ret ?_
    | refine Tot.bind ?_
  all_goals grind [okL, okS, wrap64]
theorem keptIdx (l : List api_Kept) (a : Int) (h : l.length ≤ 16777216) : Tot (slices_IndexFunc_api_Kept_api_Kept__join_there_1 l a) (fun i => i = -1 ∨ (0 ≤ i ∧ i < l.length)) := by
  unfold slices_IndexFunc_api_Kept_api_Kept__join_there_1
  refine Tot.bind (Tot.loop (fun i => 0 ≤ i ∧ i ≤ (l.length : Int)) (fun i => (l.length - i).toNat) ⟨by omega, by omega⟩ ?_)
  rintro i hI
  repeat' first
    | dsimp only
    | refine Tot.gd ?_ (fun _ => ?_)
    | refine Tot.ite (fun _ => ?_) (fun _ => ?_)
    | refine Tot.next ?_ ?_
    | refine Tot.brk ?_
    | refine Tot.ret ?_
    | refine Tot.bind ?_
  all_goals grind [okL, okS, wrap64]
theorem joinThere (l : List api_Kept) (a : Int) (h : l.length ≤ 16777216) : Tot (join_there l a) (fun _ => True) := by
  unfold join_there slices_ContainsFunc_api_Kept_api_Kept__join_there_1
  repeat' first
    | dsimp only
    | refine (keptIdx l a h).mono (fun _ _ => ?_)
    | refine Tot.gd ?_ (fun _ => ?_)
    | refine Tot.ite (fun _ => ?_) (fun _ => ?_)
    | refine Tot.next ?_ ?_
    | refine Tot.brk ?_
    | refine Tot.ret ?_
    | refine Tot.bind ?_
theorem joinMeets1 (l : List api_Kept) (j : api_Join) (h : l.length ≤ 16777216) (hp : ∀ x ∈ l, 0 ≤ x.Part ∧ x.Part < 6) : Tot (join_meets_1_o0_125_o1 l j) (fun _ => True) := by
  unfold join_meets_1_o0_125_o1
  have hq : ∀ i : Int, 0 ≤ i → i < l.length → 0 ≤ (nth l i).Part ∧ (nth l i).Part < 6 := fun i h0 h1 => hp _ (nth_mem h0 h1)
  refine Tot.cut (fun _ => True) (Tot.loop (fun (i, b, o) => 0 ≤ i ∧ i ≤ (l.length : Int) ∧ b.length = 6 ∧ o.length ≤ i) (fun (i, b, o) => (l.length - i).toNat) ⟨by omega, by omega, rfl, by simp⟩ ?_) fun _ _ => ?_
  · rintro ⟨i, b, o⟩ hI
    repeat' first
      | dsimp only
      | refine Tot.gd ?_ (fun _ => ?_)
      | refine Tot.ite (fun _ => ?_) (fun _ => ?_)
      | refine Tot.next ?_ ?_
      | refine Tot.brk ?_
      | refine Tot.ret ?_
      | refine Tot.bind ?_
    all_goals grind [okL, okS, wrap64]
  · repeat' first
      | dsimp only
      | refine Tot.gd ?_ (fun _ => ?_)
      | refine Tot.ite (fun _ => ?_) (fun _ => ?_)
      | refine Tot.next ?_ ?_
      | refine Tot.brk ?_
      | refine Tot.ret ?_
      | refine Tot.bind ?_
theorem joinUpto (a b : Int) (h0 : 0 ≤ a) (h1 : a ≤ 1000) : Tot (join_upto a b) (fun _ => True) := by
  unfold join_upto
  repeat' first
    | dsimp only
    | refine Tot.gd ?_ (fun _ => ?_)
    | refine Tot.ite (fun _ => ?_) (fun _ => ?_)
    | refine Tot.next ?_ ?_
    | refine Tot.brk ?_
    | refine Tot.ret ?_
    | refine Tot.bind ?_
  · omega
  · refine Tot.loop (fun (i, l) => 0 ≤ i ∧ i ≤ a ∧ l.length = a.toNat) (fun (i, l) => (a - i).toNat) ⟨by omega, by omega, by simp⟩ ?_
    rintro ⟨i, l⟩ hI
    repeat' first
      | dsimp only
      | refine Tot.gd ?_ (fun _ => ?_)
      | refine Tot.ite (fun _ => ?_) (fun _ => ?_)
      | refine Tot.next ?_ ?_
      | refine Tot.brk ?_
      | refine Tot.ret ?_
      | refine Tot.bind ?_
    all_goals grind [okL, okS, wrap64]
theorem joinMeets {j : api_Join} (hj : 1 ≤ j.Parts ∧ j.Parts ≤ 6 ∧ 0 ≤ j.Window ∧ j.Window ≤ 1073741824 ∧ 0 ≤ j.Need ∧ j.Need ≤ 30 ∧ (j.Kind = [97, 108, 108] ∨ j.Kind = [97, 110, 121] ∨ (j.Kind = [99, 111, 117, 110, 116] ∧ 1 ≤ j.Need))) (l : List api_Kept) (h : l.length ≤ 16777216) (hp : ∀ x ∈ l, 0 ≤ x.Part ∧ x.Part < 6) : Tot (join_meets j l) (fun _ => True) := by
  unfold join_meets join_meets_2_o0_125 join_meets_3_o0_o1_125
  repeat' first
    | dsimp only
    | refine (joinMeets1 l j h hp).mono (fun _ _ => ?_)
    | refine (joinUpto _ _ (by omega) (by omega)).mono (fun _ _ => ?_)
    | refine Tot.gd ?_ (fun _ => ?_)
    | refine Tot.ite (fun _ => ?_) (fun _ => ?_)
    | refine Tot.next ?_ ?_
    | refine Tot.brk ?_
    | refine Tot.ret ?_
    | refine Tot.bind ?_
  all_goals grind
theorem joinCheck {N : Nat} {j : api_Join} {l : List api_Kept} (hl : l.length ≤ 16777216) : Tot (join_Check j l) (fun _ => True) := by
  unfold join_Check
  refine Tot.bind ((joinMay j).mono fun b hb => ?_)
  refine Tot.ite (fun _ => Tot.ret trivial) fun hc => ?_
  have hj := hb (by simp at hc; exact hc.1)
  refine Tot.cut (fun e => e = Sum.inr () → ∀ x ∈ l, 0 ≤ x.Part ∧ x.Part < 6) (Tot.loop (fun i => 0 ≤ i ∧ i ≤ (l.length : Int) ∧ upTo (fun x => 0 ≤ x.Part ∧ x.Part < 6) l i) (fun i => (l.length - i).toNat) ⟨by omega, by omega, upTo.zero⟩ ?_) ?_
  · rintro i hI
    have hfit : join_fits j (nth l i) = true → 0 ≤ (nth l i).Part ∧ (nth l i).Part < 6 := by
      unfold join_fits; grind
    have ht : (List.take (Int.toNat i) l).length ≤ 16777216 := by grind
    repeat' first
      | dsimp only
      | refine (joinEarly _ _ ht).mono (fun _ _ => ?_)
      | refine (joinThere _ _ ht).mono (fun _ _ => ?_)
      | refine Tot.gd ?_ (fun _ => ?_)
      | refine Tot.ite (fun _ => ?_) (fun _ => ?_)
      | refine Tot.next ?_ ?_
      | refine Tot.brk ?_
      | refine Tot.ret ?_
      | refine Tot.bind ?_
    all_goals grind [okL, okS, wrap64, upTo.step, upTo.all]
  · rintro (v | v) h
    · exact Tot.ret trivial
    · dsimp only
      refine Tot.bind ((joinMeets hj l hl (h rfl)).mono fun _ _ => ?_)
      repeat' first
        | dsimp only
        | refine Tot.gd ?_ (fun _ => ?_)
        | refine Tot.ite (fun _ => ?_) (fun _ => ?_)
        | refine Tot.next ?_ ?_
        | refine Tot.brk ?_
        | refine Tot.ret ?_
        | refine Tot.bind ?_
theorem isNone_of {α : Type} (o : Option α) (h : ¬ o.isSome = true) : o.isNone = true := by cases o <;> simp at *
theorem instCheck {N : Nat} {j : api_Join} {l : List api_Inst} (h : okL N (ok_Inst N) l) (hN : N ≤ 16777216) : Tot (inst_Check j l) (fun e => e = 0 → ∀ x ∈ l, val_May x.Key = true) := by
  unfold inst_Check
  have hl := Nat.le_trans h.1 hN
  refine Tot.bind ((joinMay j).mono fun b hb => ?_)
  refine Tot.ite (fun _ => Tot.ret (by simp)) fun hc => ?_
  refine Tot.cut (fun e => e = Sum.inl 1 ∨ (e = Sum.inr () ∧ ∀ x ∈ l, val_May x.Key = true)) (Tot.loop (fun (i, m) => 0 ≤ i ∧ i ≤ (l.length : Int) ∧ upTo (fun x => val_May x.Key = true) l i) (fun (i, m) => (l.length - i).toNat) ⟨by omega, by omega, upTo.zero⟩ ?_) ?_
  · rintro ⟨i, m⟩ ⟨h0, h1, h2⟩
    have hin : i < (l.length : Int) → (nth l i).L.length ≤ 16777216 := fun hi => Nat.le_trans (h.nth h0 hi).l.1 hN
    repeat' first
      | dsimp only
      | refine (joinCheck (N := N) (hin (by grind))).mono (fun _ _ => ?_)
      | refine Tot.gd ?_ (fun _ => ?_)
      | refine Tot.ite (fun _ => ?_) (fun _ => ?_)
      | refine Tot.next ?_ ?_
      | refine Tot.brk ?_
      | refine Tot.ret ?_
      | refine Tot.bind ?_
    all_goals first
      | (refine Tot.loop (fun (k, m) => 0 ≤ k ∧ k ≤ ((nth l i).L.length : Int)) (fun (k, m) => ((nth l i).L.length - k).toNat) ⟨by omega, by omega⟩ ?_)
      | skip
    any_goals (rintro ⟨k, m2⟩ hK)
    all_goals
      repeat' first
        | dsimp only
        | refine Tot.gd ?_ (fun _ => ?_)
        | refine Tot.ite (fun _ => ?_) (fun _ => ?_)
        | refine Tot.next ?_ ?_
        | refine Tot.brk ?_
        | refine Tot.ret ?_
        | refine Tot.bind ?_
    all_goals grind [okL, okS, wrap64, upTo.step, upTo.all, isNone_of]
  · rintro (v | v) h
    · dsimp only; exact Tot.ret (by grind)
    · dsimp only; exact Tot.ret (by grind)
theorem routeMayWait {N : Nat} {u : api_Sub} {now : Int} (h : ok_Sub N u) (hN : N ≤ 16777216) : Tot (route_mayWait u now) (fun b => b = true → ∀ x ∈ u.Insts, val_May x.Key = true) := by
  unfold route_mayWait
  have hl := Nat.le_trans h.insts.1 hN
  refine Tot.bind ((instCheck (j := u.D.J) h.insts hN).mono fun b hb => ?_)
  refine Tot.ite (fun _ => Tot.ret (by simp)) fun hc => ?_
  have hk := hb (by simpa using hc)
  refine Tot.bind (Tot.loop (fun i => 0 ≤ i ∧ i ≤ (u.Insts.length : Int)) (fun i => (u.Insts.length - i).toNat) ⟨by omega, by omega⟩ ?_)
  rintro i hI
  have hin : i < (u.Insts.length : Int) → (nth u.Insts i).L.length ≤ 16777216 := fun hi => Nat.le_trans (h.insts.nth hI.1 hi).l.1 hN
  repeat' first
    | dsimp only
    | refine Tot.gd ?_ (fun _ => ?_)
    | refine Tot.ite (fun _ => ?_) (fun _ => ?_)
    | refine Tot.next ?_ ?_
    | refine Tot.brk ?_
    | refine Tot.ret ?_
    | refine Tot.bind ?_
  all_goals first
    | (refine Tot.loop (fun k => 0 ≤ k ∧ k ≤ ((nth u.Insts i).L.length : Int)) (fun k => ((nth u.Insts i).L.length - k).toNat) ⟨by omega, by omega⟩ ?_; rintro k hK)
    | skip
  all_goals
    repeat' first
      | dsimp only
      | refine Tot.gd ?_ (fun _ => ?_)
      | refine Tot.ite (fun _ => ?_) (fun _ => ?_)
      | refine Tot.next ?_ ?_
      | refine Tot.brk ?_
      | refine Tot.ret ?_
      | refine Tot.bind ?_
  all_goals grind [okL, okS, wrap64]
theorem routeMaySub {N : Nat} {r : api_Router} {u : api_Sub} (hr : r.Topics.length ≤ 16777216) (h : ok_Sub N u) (hN : N ≤ 16777216) : Tot (route_maySub r u) (fun b => b = true → (∀ p ∈ u.D.Where, PM p) ∧ (∀ x ∈ u.Insts, val_May x.Key = true)) := by
  unfold route_maySub
  have h1 := Nat.le_trans h.offs.1 hN
  repeat' first
    | dsimp only
    | refine (offsMay h.d hN).mono (fun _ _ => ?_)
    | refine (routeRead _ _ h1 hr).mono (fun _ _ => ?_)
    | refine (routeCounted h hN).mono (fun _ _ => ?_)
    | refine (routeMayWait h hN).mono (fun _ _ => ?_)
    | refine Tot.gd ?_ (fun _ => ?_)
    | refine Tot.ite (fun _ => ?_) (fun _ => ?_)
    | refine Tot.next ?_ ?_
    | refine Tot.brk ?_
    | refine Tot.ret ?_
    | refine Tot.bind ?_
  all_goals grind
def CS (u : api_Sub) : Prop := (∀ p ∈ u.D.Where, PM p) ∧ (∀ x ∈ u.Insts, val_May x.Key = true)
theorem routeMaySubs {N : Nat} {r : api_Router} (h : ok_Router N r) (hN : N ≤ 16777216) : Tot (route_maySubs r) (fun b => b = true → ∀ u ∈ r.Subs, CS u) := by
  unfold route_maySubs
  have ht := Nat.le_trans h.topics.1 hN
  refine Tot.ite (fun _ => Tot.ret (by simp)) fun hc => ?_
  refine Tot.bind (Tot.loop (fun i => 0 ≤ i ∧ i ≤ (r.Subs.length : Int) ∧ upTo CS r.Subs i) (fun i => (r.Subs.length - i).toNat) ⟨by omega, by omega, upTo.zero⟩ ?_)
  rintro i ⟨h0, h1, h2⟩
  repeat' first
    | dsimp only
    | refine ((routeMaySub ht (h.subs.nth h0 (by grind)) hN).mono (Q := fun b => b = true → CS (nth r.Subs i)) (fun _ h => h)).mono (fun _ _ => ?_)
    | refine Tot.gd ?_ (fun _ => ?_)
    | refine Tot.ite (fun _ => ?_) (fun _ => ?_)
    | refine Tot.next ?_ ?_
    | refine Tot.brk ?_
    | refine Tot.ret ?_
    | refine Tot.bind ?_
  all_goals grind [okL, okS, wrap64, upTo.step, upTo.all]
theorem outboxMay (o : api_Out) : Tot (outbox_may o) (fun _ => True) := by
  unfold outbox_may
  repeat' first
    | dsimp only
    | refine (eventField).mono (fun _ _ => ?_)
    | refine Tot.gd ?_ (fun _ => ?_)
    | refine Tot.ite (fun _ => ?_) (fun _ => ?_)
    | refine Tot.next ?_ ?_
    | refine Tot.brk ?_
    | refine Tot.ret ?_
    | refine Tot.bind ?_
theorem outboxCheck (l : List api_Out) : Tot (outbox_Check l) (fun _ => True) := by
  unfold outbox_Check
  repeat' first
    | dsimp only
    | refine Tot.gd ?_ (fun _ => ?_)
    | refine Tot.ite (fun _ => ?_) (fun _ => ?_)
    | refine Tot.next ?_ ?_
    | refine Tot.brk ?_
    | refine Tot.ret ?_
    | refine Tot.bind ?_
  refine Tot.loop (fun i => 0 ≤ i ∧ i ≤ (l.length : Int)) (fun i => (l.length - i).toNat) ⟨by omega, by omega⟩ ?_
  rintro i hI
  repeat' first
    | dsimp only
    | refine (outboxMay _).mono (fun _ _ => ?_)
    | refine Tot.gd ?_ (fun _ => ?_)
    | refine Tot.ite (fun _ => ?_) (fun _ => ?_)
    | refine Tot.next ?_ ?_
    | refine Tot.brk ?_
    | refine Tot.ret ?_
    | refine Tot.bind ?_
  all_goals grind [okL, okS, wrap64]
theorem routeMayOut {N : Nat} {r : api_Router} (h : ok_Router N r) (hN : N ≤ 16777216) : Tot (route_mayOut r) (fun _ => True) := by
  unfold route_mayOut
  have h1 := Nat.le_trans h.out.1 hN
  have h2 := Nat.le_trans h.given_.1 hN
  refine Tot.cut (fun _ => True) ?_ fun x4 _ => Tot.cut (fun _ => True) ?_ fun x11 _ => Tot.ite (fun _ => Tot.ret trivial) fun hc => Tot.cut (fun _ => True) (Tot.loop (fun i => 0 ≤ i ∧ i ≤ 2) (fun i => (2 - i).toNat) ⟨by omega, by omega⟩ ?_) ?_
  · repeat' first
      | dsimp only
      | refine (outboxCheck _).mono (fun _ _ => ?_)
      | refine Tot.gd ?_ (fun _ => ?_)
      | refine Tot.ite (fun _ => ?_) (fun _ => ?_)
      | refine Tot.next ?_ ?_
      | refine Tot.brk ?_
      | refine Tot.ret ?_
      | refine Tot.bind ?_
  · repeat' first
      | dsimp only
      | refine (outboxCheck _).mono (fun _ _ => ?_)
      | refine Tot.gd ?_ (fun _ => ?_)
      | refine Tot.ite (fun _ => ?_) (fun _ => ?_)
      | refine Tot.next ?_ ?_
      | refine Tot.brk ?_
      | refine Tot.ret ?_
      | refine Tot.bind ?_
  · rintro i hI
    have hn : i < 2 → (nth [r.Out, r.Given] i).length ≤ 16777216 := fun hi => by
      unfold nth
      rcases (by omega : i = 0 ∨ i = 1) with rfl | rfl <;> simp [*]
    repeat' first
      | dsimp only
      | refine Tot.gd ?_ (fun _ => ?_)
      | refine Tot.ite (fun _ => ?_) (fun _ => ?_)
      | refine Tot.next ?_ ?_
      | refine Tot.brk ?_
      | refine Tot.ret ?_
      | refine Tot.bind ?_
    all_goals grind [okL, okS, wrap64]
  · rintro (v | v) _
    · exact Tot.ret trivial
    · dsimp only
      refine Tot.bind (Tot.loop (fun (i, k) => 0 ≤ i ∧ i ≤ (r.Out.length : Int) ∧ 0 ≤ k ∧ k ≤ (r.Given.length : Int)) (fun (i, k) => (r.Out.length - i).toNat + (r.Given.length - k).toNat) ⟨by omega, by omega, by omega, by omega⟩ ?_)
      rintro ⟨i, k⟩ hI
      repeat' first
        | dsimp only
        | refine Tot.gd ?_ (fun _ => ?_)
        | refine Tot.ite (fun _ => ?_) (fun _ => ?_)
        | refine Tot.next ?_ ?_
        | refine Tot.brk ?_
        | refine Tot.ret ?_
        | refine Tot.bind ?_
      all_goals grind [okL, okS, wrap64]
theorem subIdx (l : List api_Sub) (s : Str) (h : l.length ≤ 16777216) : Tot (slices_IndexFunc_api_Sub_api_Sub__route_place_1 l s) (fun i => i = -1 ∨ (0 ≤ i ∧ i < l.length)) := by
  unfold slices_IndexFunc_api_Sub_api_Sub__route_place_1
  refine Tot.bind (Tot.loop (fun i => 0 ≤ i ∧ i ≤ (l.length : Int)) (fun i => (l.length - i).toNat) ⟨by omega, by omega⟩ ?_)
  rintro i hI
  repeat' first
    | dsimp only
    | refine Tot.gd ?_ (fun _ => ?_)
    | refine Tot.ite (fun _ => ?_) (fun _ => ?_)
    | refine Tot.next ?_ ?_
    | refine Tot.brk ?_
    | refine Tot.ret ?_
    | refine Tot.bind ?_
  all_goals grind [okL, okS, wrap64]
theorem routePlace (l : List api_Sub) (s : Str) (h : l.length ≤ 16777216) : Tot (route_place l s) (fun _ => True) := by
  unfold route_place
  repeat' first
    | dsimp only
    | refine (subIdx l s h).mono (fun _ _ => ?_)
    | refine Tot.gd ?_ (fun _ => ?_)
    | refine Tot.ite (fun _ => ?_) (fun _ => ?_)
    | refine Tot.next ?_ ?_
    | refine Tot.brk ?_
    | refine Tot.ret ?_
    | refine Tot.bind ?_
theorem routeMayDead {N : Nat} {r : api_Router} (h : ok_Router N r) (hN : N ≤ 16777216) : Tot (route_mayDead r) (fun _ => True) := by
  unfold route_mayDead
  have h1 := Nat.le_trans h.subs.1 hN
  refine Tot.ite (fun _ => Tot.ret trivial) fun hc => ?_
  refine Tot.bind (Tot.loop (fun i => 0 ≤ i ∧ i ≤ (r.Dead.length : Int)) (fun i => (r.Dead.length - i).toNat) ⟨by omega, by omega⟩ ?_)
  rintro i hI
  have he : i < (r.Dead.length : Int) → (nth r.Dead i).E.length ≤ 16777216 := fun hi => Nat.le_trans (h.dead.nth hI.1 hi).e hN
  repeat' first
    | dsimp only
    | refine (eventTake (he (by grind))).mono (fun _ _ => ?_)
    | refine (routePlace _ _ h1).mono (fun _ _ => ?_)
    | refine Tot.gd ?_ (fun _ => ?_)
    | refine Tot.ite (fun _ => ?_) (fun _ => ?_)
    | refine Tot.next ?_ ?_
    | refine Tot.brk ?_
    | refine Tot.ret ?_
    | refine Tot.bind ?_
  all_goals grind [okL, okS, wrap64]
theorem routeCheck {N : Nat} {r : api_Router} (h : ok_Router N r) (hN : N ≤ 16777216) : Tot (route_Check r) (fun e => (e = 0 ∨ e = 1) ∧ (e = 0 → ∀ u ∈ r.Subs, CS u)) := by
  unfold route_Check
  repeat' first
    | dsimp only
    | refine (topicCheck h.topics hN).mono (fun _ _ => ?_)
    | refine (dedupCheck _).mono (fun _ _ => ?_)
    | refine (routeMaySubs h hN).mono (fun _ _ => ?_)
    | refine (routeMayOut h hN).mono (fun _ _ => ?_)
    | refine (routeMayDead h hN).mono (fun _ _ => ?_)
    | refine Tot.gd ?_ (fun _ => ?_)
    | refine Tot.ite (fun _ => ?_) (fun _ => ?_)
    | refine Tot.next ?_ ?_
    | refine Tot.brk ?_
    | refine Tot.ret ?_
    | refine Tot.bind ?_
  all_goals grind
end Go.Proofs
