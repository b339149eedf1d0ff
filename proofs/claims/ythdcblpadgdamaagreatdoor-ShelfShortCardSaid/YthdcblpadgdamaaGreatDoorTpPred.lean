/- Own work: which predicates may be. -/
import Derived.Test.YthdcblpadgdamaaGreatDoorTpEvent
set_option linter.all false
namespace Go.Proofs
open Go Go.Trw
/-- The octets of a field's name, and of a topic pattern. -/
def nameOK (s : Str) : Prop := allB globB s ∧ s.length ≤ 40
/-- A predicate that may be, as far as its octets lean on it. -/
inductive PV : Nat → api_Pred → Prop
  | all {d} : PV (d + 1) (.mk [97, 108, 108] [] z_api_Value [])
  | topic {d s} : nameOK s → PV (d + 1) (.mk [116, 111, 112, 105, 99] s z_api_Value [])
  | has {d s} : nameOK s → PV (d + 1) (.mk [104, 97, 115] s z_api_Value [])
  | eq {d s v} : nameOK s → val_May v = true → PV (d + 1) (.mk [101, 113] s v [])
  | lt {d s v} : nameOK s → val_May v = true → PV (d + 1) (.mk [108, 116] s v [])
  | not {d p} : PV d p → PV (d + 1) (.mk [110, 111, 116] [] z_api_Value [p])
  | and {d p q} : PV d p → PV d q → PV (d + 1) (.mk [97, 110, 100] [] z_api_Value [p, q])
  | or {d p q} : PV d p → PV d q → PV (d + 1) (.mk [111, 114] [] z_api_Value [p, q])
/-- What a node alone has to be. -/
def AL (p : api_Pred) : Prop :=
  (p.Op = [97, 108, 108] ∧ p.S = [] ∧ p.V = z_api_Value ∧ p.L.length = 0) ∨
  (p.Op = [116, 111, 112, 105, 99] ∧ nameOK p.S ∧ p.V = z_api_Value ∧ p.L.length = 0) ∨
  (p.Op = [104, 97, 115] ∧ nameOK p.S ∧ p.V = z_api_Value ∧ p.L.length = 0) ∨
  (p.Op = [101, 113] ∧ nameOK p.S ∧ val_May p.V = true ∧ p.L.length = 0) ∨
  (p.Op = [108, 116] ∧ nameOK p.S ∧ val_May p.V = true ∧ p.L.length = 0) ∨
  (p.Op = [110, 111, 116] ∧ p.S = [] ∧ p.V = z_api_Value ∧ p.L.length = 1) ∨
  (p.Op = [97, 110, 100] ∧ p.S = [] ∧ p.V = z_api_Value ∧ p.L.length = 2) ∨
  (p.Op = [111, 114] ∧ p.S = [] ∧ p.V = z_api_Value ∧ p.L.length = 2)
theorem predAlone (p : api_Pred) : Tot (pred_alone p) (fun b => b = true → AL p) := by
  unfold pred_alone
  repeat' first
    | dsimp only
    | refine (nameGlob _).mono (fun _ _ => ?_)
    | refine (eventField).mono (fun _ _ => ?_)
    | refine Tot.gd ?_ (fun _ => ?_)
    | refine Tot.ite (fun _ => ?_) (fun _ => ?_)
    | refine Tot.next ?_ ?_
    | refine Tot.brk ?_
    | refine Tot.ret ?_
    | refine Tot.bind ?_
  all_goals unfold AL nameOK
  all_goals grind [okL, okS, wrap64]
theorem PV.of {d : Nat} {p : api_Pred} (h : AL p) (hl : ∀ x ∈ p.L, PV d x) : PV (d + 1) p := by
  cases p with
  | mk o s v l =>
    simp only [AL, PT.Op_mk, PT.S_mk, PT.V_mk, PT.L_mk] at h hl
    have len0 : l.length = 0 → l = [] := List.eq_nil_of_length_eq_zero
    have len1 : l.length = 1 → ∃ a, l = [a] := List.length_eq_one_iff.1
    have len2 : l.length = 2 → ∃ a b, l = [a, b] := fun h => by match l, h with | [a, b], _ => exact ⟨a, b, rfl⟩
    rcases h with ⟨rfl, h1, h2, h3⟩ | ⟨rfl, h1, h2, h3⟩ | ⟨rfl, h1, h2, h3⟩ | ⟨rfl, h1, h2, h3⟩ | ⟨rfl, h1, h2, h3⟩ | ⟨rfl, h1, h2, h3⟩ | ⟨rfl, h1, h2, h3⟩ | ⟨rfl, h1, h2, h3⟩
    · cases len0 h3; subst h1 h2; exact .all
    · cases len0 h3; subst h2; exact .topic h1
    · cases len0 h3; subst h2; exact .has h1
    · cases len0 h3; exact .eq h1 h2
    · cases len0 h3; exact .lt h1 h2
    · obtain ⟨a, rfl⟩ := len1 h3; subst h1 h2; exact .not (hl _ (by simp))
    · obtain ⟨a, b, rfl⟩ := len2 h3; subst h1 h2; exact .and (hl _ (by simp)) (hl _ (by simp))
    · obtain ⟨a, b, rfl⟩ := len2 h3; subst h1 h2; exact .or (hl _ (by simp)) (hl _ (by simp))
theorem predDeep : ∀ (n : Nat) (p : api_Pred) (room : Int) (o : pred_walk), 0 ≤ room → room < n → room ≤ 8 → 0 ≤ o.nodes_ → o.nodes_ ≤ 40 → Tot (pred_walk_deep_o0 n p room o) (fun r => r.2.1 = true → PV room.toNat p ∧ 0 ≤ r.2.2.nodes_ ∧ r.2.2.nodes_ ≤ 40) := by
  intro n
  induction n with
  | zero => intros; omega
  | succ n ih =>
    intro p room o h0 h1 h2 h3 h4
    unfold pred_walk_deep_o0
    have hw : IntKind.i64.wrap (o.nodes_ + 1) = o.nodes_ + 1 := wrap64 (by omega) (by omega)
    rw [hw]
    have hb : ∀ b : Bool, ((decide (room < 1) || decide (o.nodes_ + 1 > 40)) || !b) = false → ((decide (room < 1) || decide (o.nodes_ + 1 > 40)) = false) ∧ b = true := by grind
    refine Tot.cut (fun b => ((decide (room < 1) || decide (o.nodes_ + 1 > 40)) = false) → b = true → AL p) ?_ fun b hb2 => ?_
    · repeat' first
        | dsimp only
        | refine (predAlone p).mono (fun _ _ => ?_)
        | refine Tot.gd ?_ (fun _ => ?_)
        | refine Tot.ite (fun _ => ?_) (fun _ => ?_)
        | refine Tot.next ?_ ?_
        | refine Tot.brk ?_
        | refine Tot.ret ?_
        | refine Tot.bind ?_
      all_goals grind
    refine Tot.ite (fun _ => Tot.ret (by simp)) fun hc => ?_
    obtain ⟨c1, c2⟩ := hb b (by simpa using hc)
    have ha := hb2 c1 c2
    have hr : 1 ≤ room ∧ o.nodes_ + 1 ≤ 40 := by simp at c1; omega
    have hw2 : IntKind.i64.wrap (room - 1) = room - 1 := wrap64 (by omega) (by omega)
    refine Tot.bind (Tot.loop (fun (i, o, d) => 0 ≤ i ∧ i ≤ (p.L.length : Int) ∧ 0 ≤ o.nodes_ ∧ o.nodes_ ≤ 40 ∧ upTo (PV (room - 1).toNat) p.L i) (fun (i, o, d) => (p.L.length - i).toNat) ⟨by omega, by omega, by show 0 ≤ o.nodes_ + 1; omega, by show o.nodes_ + 1 ≤ 40; omega, upTo.zero⟩ ?_)
    rintro ⟨i, o2, d⟩ ⟨k1, k2, k3, k4, k5⟩
    have hl : (p.L.length : Int) ≤ 2 := by
      unfold AL at ha; grind
    rw [hw2]
    have hih := ih (nth p.L i) (room - 1) o2 (by omega) (by omega) (by omega) k3 k4
    repeat' first
      | dsimp only
      | refine (hih).mono (fun _ _ => ?_)
      | refine Tot.gd ?_ (fun _ => ?_)
      | refine Tot.ite (fun _ => ?_) (fun _ => ?_)
      | refine Tot.next ?_ ?_
      | refine Tot.brk ?_
      | refine Tot.ret ?_
      | refine Tot.bind ?_
    all_goals clear hih ih hb hb2
    · grind
    · simp
    · rename_i e1 e2 r e3 e4
      obtain ⟨e5, e6, e7⟩ := e3 (by simpa using e4)
      rw [wrap64 (by omega) (by omega)]
      exact ⟨by omega, by omega, e6, e7, k5.step e2.1 e2.2 e5⟩
    · grind [okL, okS, wrap64]
    · rename_i e1
      intro _
      refine ⟨?_, k3, k4⟩
      have := PV.of ha (k5.all (by simpa using e1))
      rwa [show (room - 1).toNat + 1 = room.toNat by omega] at this
theorem predMay (p : api_Pred) : Tot (pred_May p) (fun b => b = true → PV 8 p) := by
  unfold pred_May
  refine Tot.bind ((predDeep FUEL p 8 z_pred_walk (by omega) (by simp [FUEL]) (by omega) (by simp [z_pred_walk]) (by simp [z_pred_walk])).mono fun r hr => Tot.ret fun hb => (hr ?_).1)
  simp at hb; exact hb.1
/-- What pred.May finds. -/
def PM (p : api_Pred) : Prop := pred_May p = some true
theorem PM.pv {p : api_Pred} (h : PM p) : PV 8 p := (predMay p).of h rfl
theorem predMay2 (p : api_Pred) : Tot (pred_May p) (fun b => b = true → PM p) := (predMay p).self.mono fun b hb e => by unfold PM; rw [← e]; exact hb.1
theorem offsAllStr (l : List Str) (h : l.length ≤ 16777216) : Tot (offs_all_string__offs_May_1 l) (fun _ => True) := by
  unfold offs_all_string__offs_May_1 offs_May_1
  refine Tot.bind (Tot.loop (fun i => 0 ≤ i ∧ i ≤ (l.length : Int)) (fun i => (l.length - i).toNat) ⟨by omega, by omega⟩ ?_)
  rintro i hI
  repeat' first
    | dsimp only
    | refine (nameGlob _).mono (fun _ _ => ?_)
    | refine Tot.gd ?_ (fun _ => ?_)
    | refine Tot.ite (fun _ => ?_) (fun _ => ?_)
    | refine Tot.next ?_ ?_
    | refine Tot.brk ?_
    | refine Tot.ret ?_
    | refine Tot.bind ?_
  all_goals grind [okL, okS, wrap64]
theorem offsAllPred (l : List api_Pred) (h : l.length ≤ 16777216) : Tot (offs_all_api_Pred__offs_May_2 l) (fun b => b = true → ∀ x ∈ l, PM x) := by
  unfold offs_all_api_Pred__offs_May_2 offs_May_2
  refine Tot.bind (Tot.loop (fun i => 0 ≤ i ∧ i ≤ (l.length : Int) ∧ upTo PM l i) (fun i => (l.length - i).toNat) ⟨by omega, by omega, upTo.zero⟩ ?_)
  rintro i hI
  repeat' first
    | dsimp only
    | refine (predMay2 _).mono (fun _ _ => ?_)
    | refine Tot.gd ?_ (fun _ => ?_)
    | refine Tot.ite (fun _ => ?_) (fun _ => ?_)
    | refine Tot.next ?_ ?_
    | refine Tot.brk ?_
    | refine Tot.ret ?_
    | refine Tot.bind ?_
  · grind [okL, okS, wrap64]
  · simp
  · grind [okL, okS, wrap64, upTo.step]
  · grind [okL, okS, wrap64]
  · rename_i e1
    intro _; exact hI.2.2.all (by simpa using e1)
theorem joinMay (j : api_Join) : Tot (join_May j) (fun b => b = true → 1 ≤ j.Parts ∧ j.Parts ≤ 6 ∧ 0 ≤ j.Window ∧ j.Window ≤ 1073741824 ∧ 0 ≤ j.Need ∧ j.Need ≤ 30 ∧ (j.Kind = [97, 108, 108] ∨ j.Kind = [97, 110, 121] ∨ (j.Kind = [99, 111, 117, 110, 116] ∧ 1 ≤ j.Need))) := by
  unfold join_May
  repeat' first
    | dsimp only
    | refine Tot.gd ?_ (fun _ => ?_)
    | refine Tot.ite (fun _ => ?_) (fun _ => ?_)
    | refine Tot.next ?_ ?_
    | refine Tot.brk ?_
    | refine Tot.ret ?_
    | refine Tot.bind ?_
  all_goals grind
theorem offsMay {N : Nat} {d : api_Def} (h : ok_Def N d) (hN : N ≤ 16777216) : Tot (offs_May d) (fun b => b = true → ∀ x ∈ d.Where, PM x) := by
  unfold offs_May
  have h1 := Nat.le_trans h.globs.1 hN
  have h2 := Nat.le_trans h.wher.1 hN
  repeat' first
    | dsimp only
    | refine (eventField).mono (fun _ _ => ?_)
    | refine (joinMay _).mono (fun _ _ => ?_)
    | refine (offsAllStr _ h1).mono (fun _ _ => ?_)
    | refine (offsAllPred _ h2).mono (fun _ _ => ?_)
    | refine Tot.gd ?_ (fun _ => ?_)
    | refine Tot.ite (fun _ => ?_) (fun _ => ?_)
    | refine Tot.next ?_ ?_
    | refine Tot.brk ?_
    | refine Tot.ret ?_
    | refine Tot.bind ?_
  all_goals grind
end Go.Proofs
