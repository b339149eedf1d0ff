/- Own work: a region that draws its order: a part whose operations lean on each other by their edges alone, then a part in the text's order. -/
import Derived.Test.YthdcblpadgdamaaGreatDoorTrwExtra
set_option linter.all false
namespace Go.Trw
open Go
/-- One operation under its guard. -/
def GS (X : Ctx) (all : Array Oper) (Γ : Gam) (Ω : Omg) (o : Oper) (Γ' : Gam) (Ω' : Omg) : Prop :=
  ∀ a w Q, Sat X Γ Ω a w → if Region.wanted o (yielded all a.tmps) then o.wp X.P a w (Sat X Γ' Ω') Q else Sat X Γ' Ω' (a.put o.dst undef) w
section
variable {X : Ctx} {all : Array Oper} {Γ : Gam} {Ω : Omg}
theorem GS.un {Γ' : Gam} {Ω' : Omg} {o : Oper} (hg : o.guard = none) (h : ST X Γ Ω o Γ' Ω') : GS X all Γ Ω o Γ' Ω' := by
  intro a w Q hs
  rw [if_pos (by simp [Region.wanted, hg])]
  exact h a w Q hs
theorem GS.guard {o oj : Oper} {j d t : Nat} {want b : Bool} {e : Ent} (hg : o.guard = some (j, want)) (hj : all[j]? = some oj)
    (hdst : oj.dst = some t) (ht : Γ.lookup t = some (D RBool b)) (ho : o.dst = some d) (hd : Nat.blt d X.n = true)
    (h : b = want → ST X Γ Ω o ((d, e) :: Γ) Ω) : GS X all Γ Ω o ((d, .when (b = want) e) :: Γ) Ω := by
  intro a w Q hs
  have hv : a.tmps.getD t undef = .bool b := by
    obtain ⟨gs, own, hs⟩ := hs
    exact RBool.val_iff.1 (hs.ent t _ ht)
  have hy := yielded_bool hj hdst hv
  by_cases hb : b = want
  · rw [if_pos (by simp [Region.wanted, hg, hy, hb])]
    exact Oper.wp_mono (fun a w hw => hw.to_when hb) (h hb a w Q hs)
  · rw [if_neg (by simp [Region.wanted, hg, hy, hb]), ho]
    exact hs.top d undef _ (fun gs S w => ⟨fun hc => absurd hc hb, fun _ => rfl⟩) (lt_of_blt hd)
theorem GS.guard2 {o oj : Oper} {j d t : Nat} {want b : Bool} {c : Prop} {e : Ent} (hg : o.guard = some (j, want)) (hj : all[j]? = some oj)
    (hdst : oj.dst = some t) (ht : Γ.lookup t = some (.when c (D RBool b))) (ho : o.dst = some d) (hd : Nat.blt d X.n = true)
    (h : c ∧ b = want → ST X Γ Ω o ((d, e) :: Γ) Ω) : GS X all Γ Ω o ((d, .when (c ∧ b = want) e) :: Γ) Ω := by
  intro a w Q hs
  have hv : (c → a.tmps.getD t undef = .bool b) ∧ (¬ c → a.tmps.getD t undef = undef) := by
    obtain ⟨gs, own, hs⟩ := hs
    have := hs.ent t _ ht
    exact ⟨fun hc => RBool.val_iff.1 (this.1 hc), this.2⟩
  by_cases hc : c
  · have hy := yielded_bool hj hdst (hv.1 hc)
    by_cases hb : b = want
    · rw [if_pos (by simp [Region.wanted, hg, hy, hb])]
      exact Oper.wp_mono (fun a w hw => hw.to_when ⟨hc, hb⟩) (h ⟨hc, hb⟩ a w Q hs)
    · rw [if_neg (by simp [Region.wanted, hg, hy, hb]), ho]
      exact hs.top d undef _ (fun gs S w => ⟨fun hc => absurd hc.2 hb, fun _ => rfl⟩) (lt_of_blt hd)
  · have hy := yielded_undef hj hdst (hv.2 hc)
    rw [if_neg (by simp [Region.wanted, hg, hy]), ho]
    exact hs.top d undef _ (fun gs S w => ⟨fun hc' => absurd hc'.1 hc, fun _ => rfl⟩) (lt_of_blt hd)
end
/-- An operation of the first part: what it reads, what it writes, which objects it makes. -/
structure PStep where
  rG : Gam
  wG : Gam
  rO : Omg
  wO : Omg
  fr : List Nat
inductive Alls (X : Ctx) (all : Array Oper) : List PStep → List Oper → Prop
  | nil {os} : Alls X all [] os
  | cons {s ps o os} : (∀ Γ Ω, AG Γ s.rG → AO Ω s.rO → AF Ω s.fr → GS X all Γ Ω o (s.wG ++ Γ) (s.wO ++ Ω)) → Alls X all ps os → Alls X all (s :: ps) (o :: os)
theorem Alls.get {X : Ctx} {all : Array Oper} : ∀ {ps : List PStep} {os : List Oper} {i : Nat} {s : PStep}, Alls X all ps os → ps[i]? = some s →
    ∃ o, os[i]? = some o ∧ ∀ Γ Ω, AG Γ s.rG → AO Ω s.rO → AF Ω s.fr → GS X all Γ Ω o (s.wG ++ Γ) (s.wO ++ Ω)
  | _, _, 0, s, .cons h _, he => by simp at he; subst he; exact ⟨_, rfl, h⟩
  | _, _, i + 1, s, .cons _ t, he => by simp at he; simpa using t.get he
  | _, _, _, _, .nil, he => by simp at he
def edge (af : Array Edge) (j : Nat) : Bool := af.toList.any fun e => e.on == j && Region.binds .any e
theorem edge_array (af : Array Edge) (j : Nat) : edge af j = af.any fun e => e.on == j && Region.binds .any e := by
  simp [edge]
/-- The edges of an operation. -/
def aft (all : List Oper) (k : Nat) : Array Edge := match all[k]? with | some o => o.after | none => #[]
/-- Does operation k come behind operation i, by an edge or by two? -/
def edge2 (all : List Oper) (k i : Nat) : Bool := edge (aft all k) i || (List.range k).any fun m => edge (aft all k) m && edge (aft all m) i
theorem edge2_listed {all : List Oper} {k i : Nat} {listed : Array Bool} (h : edge2 all k i = true) (hcl : ∀ k i, edge (aft all k) i = true → listed.getD k false = true → listed.getD i false = true) (hk : listed.getD k false = true) : listed.getD i false = true := by
  simp only [edge2, Bool.or_eq_true, List.any_eq_true, Bool.and_eq_true] at h
  rcases h with h | ⟨m, _, h1, h2⟩
  · exact hcl k i h hk
  · exact hcl m i h2 (hcl k m h1 hk)
inductive RdG (Γ0 : Gam) (pre : List PStep) (W : List Nat) (af : Array Edge) : Gam → Prop
  | nil : RdG Γ0 pre W af []
  | old {t e r} : W.contains t = false → Γ0.lookup t = some e → RdG Γ0 pre W af r → RdG Γ0 pre W af ((t, e) :: r)
  | new {t e r} (j : Nat) {s : PStep} : pre[j]? = some s → s.wG.lookup t = some e → edge af j = true → RdG Γ0 pre W af r → RdG Γ0 pre W af ((t, e) :: r)
/-- Nobody writes the object ahead of operation i, but those up to j. -/
def quiet (pre : List PStep) (all : List Oper) (t i : Nat) (j : Nat) : Bool :=
  pre.zipIdx.all fun p => !(p.1.wO.map Prod.fst).contains t || Nat.blt p.2 j || Nat.beq p.2 i || edge2 all p.2 i
/-- Whoever writes an object that was written ahead of it comes behind that one. -/
def chain (pre : List PStep) (all : List Oper) : Bool :=
  pre.zipIdx.all fun p => pre.zipIdx.all fun q => !Nat.blt q.2 p.2 || edge2 all p.2 q.2 || (p.1.wO.map Prod.fst).all fun t => !(q.1.wO.map Prod.fst).contains t
theorem quiet_get {pre : List PStep} {all : List Oper} {t i j k : Nat} {s : PStep} {e : OEnt} (h : quiet pre all t i j = true) (hs : pre[k]? = some s) (he : s.wO.lookup t = some e) : k < j ∨ k = i ∨ edge2 all k i = true := by
  have hm : (s, k) ∈ pre.zipIdx := by rw [List.mem_zipIdx_iff_getElem?]; exact hs
  have := List.all_eq_true.1 h _ hm
  have hc : (s.wO.map Prod.fst).contains t = true := lookup_mem.2 (by rw [he]; simp)
  simp only [hc, Bool.not_true, Bool.false_or, Bool.or_eq_true, Nat.blt_eq] at this
  rcases this with (h | h) | h
  · exact .inl h
  · exact .inr (.inl (Nat.eq_of_beq_eq_true h))
  · exact .inr (.inr h)
theorem chain_get {pre : List PStep} {all : List Oper} {t j k : Nat} {s s' : PStep} {e e' : OEnt} (h : chain pre all = true) (hj : pre[j]? = some s) (hk : pre[k]? = some s') (hjk : j < k) (he : s.wO.lookup t = some e) (he' : s'.wO.lookup t = some e') : edge2 all k j = true := by
  have hm : (s, j) ∈ pre.zipIdx := by rw [List.mem_zipIdx_iff_getElem?]; exact hj
  have hm' : (s', k) ∈ pre.zipIdx := by rw [List.mem_zipIdx_iff_getElem?]; exact hk
  have := List.all_eq_true.1 (List.all_eq_true.1 h _ hm') _ hm
  have h1 : Nat.blt j k = true := by rw [Nat.blt_eq]; exact hjk
  simp only [h1, Bool.not_true, Bool.false_or, Bool.or_eq_true] at this
  rcases this with h | h
  · exact h
  · have hmem : t ∈ s'.wO.map Prod.fst := by
      have := lookup_mem (l := s'.wO) (i := t)
      rw [he'] at this
      simpa using this
    have h2 := List.all_eq_true.1 h t hmem
    have hc : (s.wO.map Prod.fst).contains t = true := lookup_mem.2 (by rw [he]; simp)
    rw [hc] at h2; cases h2
inductive RdO (Ω0 : Omg) (pre : List PStep) (all : List Oper) (i : Nat) (af : Array Edge) : Omg → Prop
  | nil : RdO Ω0 pre all i af []
  | old {t e r} : quiet pre all t i 0 = true → Ω0.lookup t = some e → RdO Ω0 pre all i af r → RdO Ω0 pre all i af ((t, e) :: r)
  | new {t e r} (j : Nat) {s : PStep} : pre[j]? = some s → s.wO.lookup t = some e → edge af j = true → quiet pre all t i (j + 1) = true → RdO Ω0 pre all i af r → RdO Ω0 pre all i af ((t, e) :: r)
/-- What each one reads is there in whatever order the edges let. -/
inductive Rds (Γ0 : Gam) (Ω0 : Omg) (pre : List PStep) (W : List Nat) (all : List Oper) : Nat → List PStep → List Oper → Prop
  | nil {i os} : Rds Γ0 Ω0 pre W all i [] os
  | cons {i s ps o os} : RdG Γ0 pre W o.after s.rG → RdO Ω0 pre all i o.after s.rO → s.fr.all (fun x => (Ω0.lookup x).isNone && quiet pre all x i 0) = true → Rds Γ0 Ω0 pre W all (i + 1) ps os → Rds Γ0 Ω0 pre W all i (s :: ps) (o :: os)
theorem Rds.get {Γ0 : Gam} {Ω0 : Omg} {pre : List PStep} {W : List Nat} {all : List Oper} : ∀ {ps : List PStep} {os : List Oper} {n i : Nat} {s : PStep} {o : Oper}, Rds Γ0 Ω0 pre W all n ps os → ps[i]? = some s → os[i]? = some o →
    RdG Γ0 pre W o.after s.rG ∧ RdO Ω0 pre all (n + i) o.after s.rO ∧ s.fr.all (fun x => (Ω0.lookup x).isNone && quiet pre all x (n + i) 0) = true
  | _, _, _, 0, s, o, .cons h1 h2 h3 _, he, ho => by simp at he ho; subst he; subst ho; exact ⟨h1, h2, h3⟩
  | _, _, n, i + 1, s, o, .cons _ _ _ t, he, ho => by
    simp at he ho
    rw [show n + (i + 1) = (n + 1) + i from by omega]
    exact t.get he ho
  | _, _, _, _, _, _, .nil, he, _ => by simp at he
def keysG (pre : List PStep) : List Nat := pre.flatMap fun s => s.wG.map Prod.fst
def keysO (pre : List PStep) : List Nat := pre.flatMap fun s => s.wO.map Prod.fst
def distinct : List Nat → Bool
  | [] => true
  | x :: l => !l.contains x && distinct l
theorem distinct_nodup : ∀ {l : List Nat}, distinct l = true → l.Nodup
  | [], _ => List.nodup_nil
  | x :: l, h => by
    simp [distinct] at h
    exact List.nodup_cons.2 ⟨h.1, distinct_nodup h.2⟩
theorem uniq_of {α : Type _} {f : α → List Nat} : ∀ {l : List α}, (l.flatMap f).Nodup → ∀ {i j : Nat} {x y : α} {t : Nat}, l[i]? = some x → l[j]? = some y → t ∈ f x → t ∈ f y → i = j
  | [], _, i, j, x, y, t, hx, _, _, _ => by simp at hx
  | c :: l, h, i, j, x, y, t, hx, hy, tx, ty => by
    rw [List.flatMap_cons, List.nodup_append] at h
    have mem : ∀ {k : Nat} {z : α}, l[k]? = some z → t ∈ f z → t ∈ l.flatMap f := fun hk hz => List.mem_flatMap.2 ⟨_, List.mem_of_getElem? hk, hz⟩
    cases i with
    | zero =>
      cases j with
      | zero => rfl
      | succ j =>
        simp at hx hy; subst hx
        exact absurd rfl (h.2.2 t tx t (mem hy ty))
    | succ i =>
      cases j with
      | zero =>
        simp at hx hy; subst hy
        exact absurd rfl (h.2.2 t ty t (mem hx tx))
      | succ j =>
        simp at hx hy
        rw [uniq_of h.2.1 hx hy tx ty]
theorem mem_keys {β : Type _} {l : List (Nat × β)} {t : Nat} {e : β} (h : l.lookup t = some e) : t ∈ l.map Prod.fst := by
  have := lookup_mem (l := l) (i := t)
  rw [h] at this
  simpa using this
theorem lookup_append' {β : Type _} (l r : List (Nat × β)) (t : Nat) : (l ++ r).lookup t = match l.lookup t with | some e => some e | none => r.lookup t := by
  induction l with
  | nil => rfl
  | cons p l ih =>
    obtain ⟨k, x⟩ := p
    rw [List.cons_append, lookup_cons, lookup_cons]
    split
    · rfl
    · exact ih
def finG (pre : List PStep) (Γ0 : Gam) : Gam := pre.foldl (fun Γ s => s.wG ++ Γ) Γ0
def finO (pre : List PStep) (Ω0 : Omg) : Omg := pre.foldl (fun Ω s => s.wO ++ Ω) Ω0
theorem fin_lookup {β : Type _} {f : PStep → List (Nat × β)} : ∀ (pre : List PStep) (l0 : List (Nat × β)) (t : Nat) (e : β), (pre.foldl (fun l s => f s ++ l) l0).lookup t = some e →
    (∃ (j : Nat) (s : PStep), pre[j]? = some s ∧ (f s).lookup t = some e) ∨ ((∀ (j : Nat) (s : PStep), pre[j]? = some s → (f s).lookup t = none) ∧ l0.lookup t = some e)
  | [], l0, t, e, h => .inr ⟨fun j s hs => by simp at hs, h⟩
  | p :: pre, l0, t, e, h => by
    rw [List.foldl_cons] at h
    rcases fin_lookup pre _ t e h with ⟨j, s, h1, h2⟩ | ⟨h1, h2⟩
    · exact .inl ⟨j + 1, s, by simpa using h1, h2⟩
    · rw [lookup_append'] at h2
      cases hp : (f p).lookup t with
      | some e' => rw [hp] at h2; simp at h2; subst h2; exact .inl ⟨0, p, rfl, hp⟩
      | none =>
        rw [hp] at h2
        refine .inr ⟨fun j s hs => ?_, h2⟩
        cases j with
        | zero => simp at hs; subst hs; exact hp
        | succ j => simp at hs; exact h1 j s hs
theorem fin_none {β : Type _} {f : PStep → List (Nat × β)} (pre : List PStep) (l0 : List (Nat × β)) (t : Nat) (h : (pre.foldl (fun l s => f s ++ l) l0).lookup t = none) :
    (∀ (j : Nat) (s : PStep), pre[j]? = some s → (f s).lookup t = none) ∧ l0.lookup t = none := by
  induction pre generalizing l0 with
  | nil => exact ⟨fun j s hs => by simp at hs, h⟩
  | cons p pre ih =>
    rw [List.foldl_cons] at h
    obtain ⟨h1, h2⟩ := ih _ h
    rw [lookup_append'] at h2
    cases hp : (f p).lookup t with
    | some e' => rw [hp] at h2; simp at h2
    | none =>
      rw [hp] at h2
      refine ⟨fun j s hs => ?_, h2⟩
      cases j with
      | zero => simp at hs; subst hs; exact hp
      | succ j => simp at hs; exact h1 j s hs
theorem fin_last {β : Type _} {f : PStep → List (Nat × β)} : ∀ (pre : List PStep) (l0 : List (Nat × β)) (t : Nat) (e : β), (pre.foldl (fun l s => f s ++ l) l0).lookup t = some e →
    (∃ (j : Nat) (s : PStep), pre[j]? = some s ∧ (f s).lookup t = some e ∧ ∀ (k : Nat) (s' : PStep), j < k → pre[k]? = some s' → (f s').lookup t = none) ∨ ((∀ (j : Nat) (s : PStep), pre[j]? = some s → (f s).lookup t = none) ∧ l0.lookup t = some e)
  | [], l0, t, e, h => .inr ⟨fun j s hs => by simp at hs, h⟩
  | p :: pre, l0, t, e, h => by
    rw [List.foldl_cons] at h
    rcases fin_last pre _ t e h with ⟨j, s, h1, h2, h3⟩ | ⟨h1, h2⟩
    · refine .inl ⟨j + 1, s, by simpa using h1, h2, fun k s' hk hs' => ?_⟩
      cases k with
      | zero => omega
      | succ k => exact h3 k s' (by omega) (by simpa using hs')
    · rw [lookup_append'] at h2
      cases hp : (f p).lookup t with
      | some e' =>
        rw [hp] at h2; simp at h2; subst h2
        refine .inl ⟨0, p, rfl, hp, fun k s' hk hs' => ?_⟩
        cases k with
        | zero => omega
        | succ k => exact h1 k s' (by simpa using hs')
      | none =>
        rw [hp] at h2
        refine .inr ⟨fun j s hs => ?_, h2⟩
        cases j with
        | zero => simp at hs; subst hs; exact hp
        | succ j => simp at hs; exact h1 j s hs
def chk (ops : List Oper) (p : Nat) : Bool :=
  ops.zipIdx.all fun oi => oi.1.after.all (fun e => !Region.binds .any e || decide (e.on < oi.2)) && (decide (oi.2 < p) || (List.range oi.2).all fun k => edge2 ops oi.2 k)
theorem chk_get {ops : List Oper} {p i : Nat} {o : Oper} (h : chk ops p = true) (hi : ops[i]? = some o) :
    (∀ j, edge o.after j = true → j < i) ∧ (p ≤ i → ∀ k, k < i → edge2 ops i k = true) := by
  have hm : (o, i) ∈ ops.zipIdx := by
    rw [List.mem_zipIdx_iff_getElem?]; exact hi
  have := List.all_eq_true.1 h _ hm
  simp only [Bool.and_eq_true, Bool.or_eq_true, decide_eq_true_eq] at this
  refine ⟨fun j hj => ?_, fun hp k hk => ?_⟩
  · rw [edge_array, Array.any_eq_true] at hj
    obtain ⟨x, hx, he⟩ := hj
    have h2 := (Array.all_eq_true.1 this.1) x hx
    simp only [Bool.and_eq_true, beq_iff_eq] at he
    simp only [he.2, Bool.not_true, Bool.false_or, decide_eq_true_eq] at h2
    omega
  · rcases this.2 with h2 | h2
    · omega
    · exact List.all_eq_true.1 h2 k (List.mem_range.2 hk)
theorem ready_iff {ops : Array Oper} {listed : Array Bool} {i : Nat} : i ∈ Region.ready .any ops listed ↔
    i < ops.size ∧ listed.getD i true = false ∧ ∃ o, ops[i]? = some o ∧ ∀ j, edge o.after j = true → listed.getD j false = true := by
  unfold Region.ready
  rw [List.mem_filter, List.mem_range]
  simp only [Bool.and_eq_true, Bool.not_eq_true']
  constructor
  · rintro ⟨h1, h2, h3⟩
    refine ⟨h1, h2, ?_⟩
    cases ho : ops[i]? with
    | none => simp [ho] at h3
    | some o =>
      simp only [ho, Option.map_some, Option.getD_some] at h3
      refine ⟨o, rfl, fun j hj => ?_⟩
      rw [edge_array, Array.any_eq_true] at hj
      obtain ⟨x, hx, he⟩ := hj
      have := (Array.all_eq_true.1 h3) x hx
      simp only [Bool.and_eq_true, beq_iff_eq] at he
      simp only [he.2, Bool.not_true, Bool.false_or] at this
      rw [← he.1]; exact this
  · rintro ⟨h1, h2, o, ho, h3⟩
    refine ⟨h1, h2, ?_⟩
    simp only [ho, Option.map_some, Option.getD_some]
    rw [Array.all_eq_true]
    intro x hx
    by_cases hb : Region.binds .any o.after[x] = true
    · simp only [hb, Bool.not_true, Bool.false_or]
      apply h3
      rw [edge_array, Array.any_eq_true]
      exact ⟨x, hx, by simp [hb]⟩
    · simp [hb]
section
variable {X : Ctx} {Γ0 : Gam} {Ω0 : Omg} {pre : List PStep} {ops : List Oper} {Q : Exit → Act → World → Prop}
/-- Behind the first part: the text's order. -/
theorem suffix_any (hchk : chk ops pre.length = true) : ∀ (os : List Oper) (q fuel : Nat) (listed : Array Bool) (a : Act) (w : World), ops.drop q = os → pre.length ≤ q → q ≤ ops.length → listed.size = ops.length →
    (∀ j, j < ops.length → listed.getD j false = decide (j < q)) → os.length ≤ fuel → wpList X.P ops.toArray Q os a w → wpAny X.P .any ops.toArray Q fuel listed a w := by
  intro os
  induction os with
  | nil =>
    intro q fuel listed a w hd hp hq hsz hl hf h
    have hqe : q = ops.length := by
      have := congrArg List.length hd
      simp at this; omega
    have hr : Region.ready .any ops.toArray listed = [] := by
      cases hrr : Region.ready .any ops.toArray listed with
      | nil => rfl
      | cons i r =>
        have hm : i ∈ Region.ready .any ops.toArray listed := by rw [hrr]; simp
        obtain ⟨h1, h2, _⟩ := ready_iff.1 hm
        have h1' : i < ops.length := by simpa using h1
        have := hl i h1'
        have h3 : listed.getD i true = listed.getD i false := by
          rw [Array.getD, Array.getD, dif_pos (by omega), dif_pos (by omega)]
        rw [h3, this] at h2
        simp at h2; omega
    cases fuel with
    | zero => exact ⟨hr, h⟩
    | succ fuel => exact ⟨fun _ => h, fun i hi => by rw [hr] at hi; cases hi⟩
  | cons o os ih =>
    intro q fuel listed a w hd hp hq hsz hl hf h
    have hlt : q < ops.length := by
      have := congrArg List.length hd
      simp at this; omega
    have ho : ops[q]? = some o := by
      have := congrArg (fun l => l[0]?) hd
      simpa using this
    cases fuel with
    | zero => simp at hf
    | succ fuel =>
      have hgd : ∀ j, j < ops.length → listed.getD j true = listed.getD j false := fun j hj => by
        rw [Array.getD, Array.getD, dif_pos (by omega), dif_pos (by omega)]
      have hready : ∀ i, i ∈ Region.ready .any ops.toArray listed ↔ i = q := by
        intro i
        rw [ready_iff]
        constructor
        · rintro ⟨h1, h2, o', ho', h3⟩
          have h1' : i < ops.length := by simpa using h1
          rw [hgd i h1', hl i h1'] at h2
          simp at h2
          by_cases hiq : i = q
          · exact hiq
          · have hoi : ops[i]? = some o' := by simpa using ho'
            have h2 := (chk_get hchk hoi).2 (by omega) q (by omega)
            have hai : aft ops i = o'.after := by simp [aft, hoi]
            simp only [edge2, Bool.or_eq_true, List.any_eq_true, Bool.and_eq_true, hai] at h2
            rcases h2 with h2 | ⟨m, _, h4, h5⟩
            · have := h3 q h2
              rw [hl q hlt] at this
              simp at this
            · have h6 := h3 m h4
              have hmi := (chk_get hchk hoi).1 m h4
              have hml : m < ops.length := by omega
              rw [hl m hml] at h6
              have hmq : m < q := by simpa using h6
              have hom : ops[m]? = some ops[m] := List.getElem?_eq_getElem hml
              have ham : aft ops m = ops[m].after := by simp [aft, hom]
              rw [ham] at h5
              have := (chk_get hchk hom).1 q h5
              omega
        · rintro rfl
          refine ⟨by simpa using hlt, by rw [hgd _ hlt, hl _ hlt]; simp, o, by simpa using ho, fun j hj => ?_⟩
          have := (chk_get hchk ho).1 j hj
          rw [hl j (by omega)]; simpa using this
      refine ⟨fun hr => ?_, fun i hi => ?_⟩
      · have := (hready q).2 rfl
        rw [hr] at this; cases this
      · have hiq := (hready i).1 hi
        subst hiq
        have hnext : ∀ a w, wpList X.P ops.toArray Q os a w → wpAny X.P .any ops.toArray Q fuel (listed.setIfInBounds i true) a w := by
          intro a w hw
          refine ih (i + 1) fuel _ a w ?_ (by omega) (by omega) (by simpa using hsz) (fun j hj => ?_) (by simpa using hf) hw
          · rw [List.drop_eq_getElem_cons hlt] at hd
            exact (List.cons.inj hd).2
          · by_cases hji : j = i
            · subst hji
              simp [Array.getD_eq_getD_getElem?, Array.getElem?_setIfInBounds, hsz, hj]
            · have h1 := hl j hj
              have hne : ¬ i = j := fun k => hji k.symm
              have h2 : (listed.setIfInBounds i true).getD j false = listed.getD j false := by
                simp [Array.getD_eq_getD_getElem?, Array.getElem?_setIfInBounds, hne]
              rw [h2, h1]
              simp only [decide_eq_decide]; omega
        unfold wpOp
        simp only [List.getElem?_toArray, ho]
        simp only [wpList] at h
        split
        · rename_i hw
          rw [if_pos hw] at h
          exact .inl (Oper.wp_mono hnext h)
        · rename_i hw
          rw [if_neg hw] at h
          exact hnext _ _ h
/-- What is known in the first part, some operations of which are done. -/
def PInv (X : Ctx) (Γ0 : Gam) (Ω0 : Omg) (pre : List PStep) (listed : Array Bool) (a : Act) (w : World) : Prop :=
  ∃ Γ Ω, Sat X Γ Ω a w ∧
    (∀ (j : Nat) (s : PStep), pre[j]? = some s → listed.getD j false = true → ∀ t e, s.wG.lookup t = some e → Γ.lookup t = some e) ∧
    (∀ t, (∀ (j : Nat) (s : PStep), pre[j]? = some s → listed.getD j false = true → s.wG.lookup t = none) → Γ.lookup t = Γ0.lookup t) ∧
    (∀ (j : Nat) (s : PStep), pre[j]? = some s → listed.getD j false = true → ∀ t e, s.wO.lookup t = some e → (∀ (k : Nat) (s' : PStep), j < k → pre[k]? = some s' → listed.getD k false = true → s'.wO.lookup t = none) → Ω.lookup t = some e) ∧
    (∀ t, (∀ (j : Nat) (s : PStep), pre[j]? = some s → listed.getD j false = true → s.wO.lookup t = none) → Ω.lookup t = Ω0.lookup t)
theorem Sat.same {Γ Γ' : Gam} {Ω Ω' : Omg} {a : Act} {w : World} (h : Sat X Γ Ω a w) (hg : ∀ t e, Γ'.lookup t = some e → Γ.lookup t = some e) (ho : ∀ t e, Ω'.lookup t = some e → Ω.lookup t = some e) (hn : ∀ t, Ω'.lookup t = none → Ω.lookup t = none) : Sat X Γ' Ω' a w := by
  obtain ⟨gs, own, h⟩ := h
  exact ⟨gs, own, { h with
    keys := fun i hi hk => h.keys i hi (hn i hk)
    okeys := fun b i hb hk => h.okeys b i hb (hn i hk)
    obj := fun i e hi => h.obj i e (ho i e hi)
    ent := fun t e ht => h.ent t e (hg t e ht) }⟩
theorem ag_of {Γ : Gam} {af : Array Edge} {W : List Nat} {listed : Array Bool} (hW : ∀ (j : Nat) (s : PStep) (t : Nat), pre[j]? = some s → W.contains t = false → s.wG.lookup t = none)
    (hnew : ∀ (j : Nat) (s : PStep), pre[j]? = some s → listed.getD j false = true → ∀ t e, s.wG.lookup t = some e → Γ.lookup t = some e)
    (hold : ∀ t, (∀ (j : Nat) (s : PStep), pre[j]? = some s → listed.getD j false = true → s.wG.lookup t = none) → Γ.lookup t = Γ0.lookup t)
    (hed : ∀ j, edge af j = true → listed.getD j false = true) : ∀ {r : Gam}, RdG Γ0 pre W af r → AG Γ r
  | _, .nil => trivial
  | _, .old h1 h2 t => ⟨by rw [hold _ fun j s hs _ => hW j s _ hs h1]; exact h2, ag_of hW hnew hold hed t⟩
  | _, .new j h1 h2 h3 t => ⟨hnew j _ h1 (hed j h3) _ _ h2, ag_of hW hnew hold hed t⟩
theorem ao_of {Ω : Omg} {i : Nat} {af : Array Edge} {listed : Array Bool} (hun : listed.getD i false = false) (hcl : ∀ k, edge2 ops k i = true → listed.getD k false = true → listed.getD i false = true)
    (hnew : ∀ (j : Nat) (s : PStep), pre[j]? = some s → listed.getD j false = true → ∀ t e, s.wO.lookup t = some e → (∀ (k : Nat) (s' : PStep), j < k → pre[k]? = some s' → listed.getD k false = true → s'.wO.lookup t = none) → Ω.lookup t = some e)
    (hold : ∀ t, (∀ (j : Nat) (s : PStep), pre[j]? = some s → listed.getD j false = true → s.wO.lookup t = none) → Ω.lookup t = Ω0.lookup t)
    (hed : ∀ j, edge af j = true → listed.getD j false = true) : ∀ {r : Omg}, RdO Ω0 pre ops i af r → AO Ω r
  | _, .nil => trivial
  | _, .old (t := q) h1 h2 t => by
    refine ⟨?_, ao_of hun hcl hnew hold hed t⟩
    rw [hold q fun k s hs hl => ?_]
    · exact h2
    · cases hw : s.wO.lookup q with
      | none => rfl
      | some e =>
        rcases quiet_get h1 hs hw with h | h | h
        · omega
        · subst h; rw [hun] at hl; cases hl
        · have := hcl k h hl
          rw [hun] at this; cases this
  | _, .new (t := q) j h1 h2 h3 h4 t => by
    refine ⟨hnew j _ h1 (hed j h3) _ _ h2 (fun k s hjk hs hl => ?_), ao_of hun hcl hnew hold hed t⟩
    cases hw : s.wO.lookup q with
    | none => rfl
    | some e =>
      rcases quiet_get h4 hs hw with h | h | h
      · omega
      · subst h; rw [hun] at hl; cases hl
      · have := hcl k h hl
        rw [hun] at this; cases this
theorem prefix_any (hchk : chk ops pre.length = true) (hplen : Nat.ble pre.length ops.length = true) (hall : Alls X ops.toArray pre ops) {W : List Nat} (hW : keysG pre = W) (dW : distinct W = true) (hch : chain pre ops = true) (hrd : Rds Γ0 Ω0 pre W ops 0 pre ops)
    (hsuf : ∀ a w, Sat X (finG pre Γ0) (finO pre Ω0) a w → wpList X.P ops.toArray Q (ops.drop pre.length) a w) :
    ∀ (n fuel : Nat) (listed : Array Bool) (a : Act) (w : World), ((List.range pre.length).filter fun j => !listed.getD j false).length = n → listed.size = ops.length → (∀ j, pre.length ≤ j → j < ops.length → listed.getD j false = false) →
      n + (ops.length - pre.length) ≤ fuel → (∀ k i, edge (aft ops k) i = true → listed.getD k false = true → listed.getD i false = true) → PInv X Γ0 Ω0 pre listed a w → wpAny X.P .any ops.toArray Q fuel listed a w := by
  have hpl : pre.length ≤ ops.length := by simpa [Nat.ble_eq] using hplen
  have hcW : ∀ (j : Nat) (s : PStep) (t : Nat), pre[j]? = some s → W.contains t = false → s.wG.lookup t = none := by
    intro j s t hs hc
    cases hk : s.wG.lookup t with
    | none => rfl
    | some e =>
      have : t ∈ keysG pre := List.mem_flatMap.2 ⟨s, List.mem_of_getElem? hs, mem_keys hk⟩
      rw [hW] at this
      simp at hc; exact absurd this hc
  have uW : ∀ {i j : Nat} {s s' : PStep} {t : Nat} {e e' : Ent}, pre[i]? = some s → pre[j]? = some s' → s.wG.lookup t = some e → s'.wG.lookup t = some e' → i = j := by
    intro i j s s' t e e' h1 h2 h3 h4
    exact uniq_of (f := fun s : PStep => s.wG.map Prod.fst) (by have := distinct_nodup dW; rw [← hW] at this; exact this) h1 h2 (mem_keys h3) (mem_keys h4)
  intro n
  induction n with
  | zero =>
    intro fuel listed a w hn hsz hsf hf hcl hI
    have hallL : ∀ j, j < pre.length → listed.getD j false = true := by
      intro j hj
      have := List.length_eq_zero_iff.1 hn
      have h2 := List.filter_eq_nil_iff.1 this j (List.mem_range.2 hj)
      simpa using h2
    obtain ⟨Γ, Ω, hs, h1, h2, h3, h4⟩ := hI
    refine suffix_any hchk _ pre.length fuel listed a w rfl (Nat.le_refl _) hpl hsz (fun j hj => ?_) (by simp; omega) (hsuf a w (hs.same ?_ ?_ ?_))
    · by_cases hjp : j < pre.length
      · rw [hallL j hjp]; simp [hjp]
      · rw [hsf j (by omega) hj]; simp [hjp]
    · intro t e ht
      rcases fin_lookup (f := fun s => s.wG) pre Γ0 t e ht with ⟨j, s, k1, k2⟩ | ⟨k1, k2⟩
      · exact h1 j s k1 (hallL j (by
          rcases Nat.lt_or_ge j pre.length with k | k
          · exact k
          · simp [List.getElem?_eq_none k] at k1)) t e k2
      · rw [h2 t fun j s hs _ => k1 j s hs]; exact k2
    · intro t e ht
      rcases fin_last (f := fun s => s.wO) pre Ω0 t e ht with ⟨j, s, k1, k2, k3⟩ | ⟨k1, k2⟩
      · exact h3 j s k1 (hallL j (by
          rcases Nat.lt_or_ge j pre.length with k | k
          · exact k
          · simp [List.getElem?_eq_none k] at k1)) t e k2 (fun k s' hk hs' _ => k3 k s' hk hs')
      · rw [h4 t fun j s hs _ => k1 j s hs]; exact k2
    · intro t ht
      obtain ⟨k1, k2⟩ := fin_none (f := fun s => s.wO) pre Ω0 t ht
      rw [h4 t fun j s hs _ => k1 j s hs]; exact k2
  | succ n ih =>
    intro fuel listed a w hn hsz hsf hf hcl hI
    have hgd : ∀ j, j < ops.length → listed.getD j true = listed.getD j false := fun j hj => by
      rw [Array.getD, Array.getD, dif_pos (by omega), dif_pos (by omega)]
    -- one of the first part is not done yet
    have hex : ∃ j, j < pre.length ∧ listed.getD j false = false := by
      cases hfl : (List.range pre.length).filter fun j => !listed.getD j false with
      | nil => rw [hfl] at hn; simp at hn
      | cons j r =>
        have hm : j ∈ (List.range pre.length).filter fun j => !listed.getD j false := by rw [hfl]; simp
        obtain ⟨m1, m2⟩ := List.mem_filter.1 hm
        exact ⟨j, List.mem_range.1 m1, by simpa using m2⟩
    cases fuel with
    | zero => omega
    | succ fuel =>
      refine ⟨fun hr => ?_, fun i hi => ?_⟩
      · -- the least one that is not done is ready
        exfalso
        obtain ⟨j, hj1, hj2⟩ := hex
        have hmin : ∃ m, m < pre.length ∧ listed.getD m false = false ∧ ∀ k, k < m → listed.getD k false = true := by
          clear hr
          induction j using Nat.strongRecOn with
          | _ j ihj =>
            by_cases hk : ∃ k, k < j ∧ listed.getD k false = false
            · obtain ⟨k, hk1, hk2⟩ := hk
              exact ihj k hk1 (by omega) hk2
            · refine ⟨j, hj1, hj2, fun k hk' => ?_⟩
              cases hv : listed.getD k false with
              | true => rfl
              | false => exact absurd ⟨k, hk', hv⟩ hk
        obtain ⟨m, hm1, hm2, hm3⟩ := hmin
        have hlt : m < ops.length := by omega
        have ho : ops[m]? = some ops[m] := List.getElem?_eq_getElem hlt
        have : m ∈ Region.ready .any ops.toArray listed := by
          rw [ready_iff]
          exact ⟨by simpa using hlt, by rw [hgd m hlt]; exact hm2, ops[m], by simpa using ho, fun k hk => hm3 k ((chk_get hchk ho).1 k hk)⟩
        rw [hr] at this; cases this
      · obtain ⟨h1, h2, o, ho, hed⟩ := ready_iff.1 hi
        have hilt : i < ops.length := by simpa using h1
        have ho' : ops[i]? = some o := by simpa using ho
        have hun : listed.getD i false = false := by rw [← hgd i hilt]; exact h2
        have hip : i < pre.length := by
          rcases Nat.lt_or_ge i pre.length with k | k
          · exact k
          · obtain ⟨j, hj1, hj2⟩ := hex
            have h2 := (chk_get hchk ho').2 k j (by omega)
            have hai : aft ops i = o.after := by simp [aft, ho']
            simp only [edge2, Bool.or_eq_true, List.any_eq_true, Bool.and_eq_true, hai] at h2
            have : listed.getD j false = true := by
              rcases h2 with h2 | ⟨m, _, h4, h5⟩
              · exact hed j h2
              · exact hcl m j h5 (hed m h4)
            rw [hj2] at this; cases this
        have hs' : pre[i]? = some pre[i] := List.getElem?_eq_getElem hip
        obtain ⟨o2, ho2, hstep⟩ := hall.get hs'
        rw [ho'] at ho2
        simp only [Option.some.injEq] at ho2
        subst ho2
        obtain ⟨r1, r2, r3⟩ := hrd.get hs' ho'
        obtain ⟨Γ, Ω, hs, g1, g2, g3, g4⟩ := hI
        have a1 := ag_of hcW g1 g2 hed r1
        rw [Nat.zero_add] at r2 r3
        have a2 := ao_of hun (fun k h1 h2 => edge2_listed h1 hcl h2) g3 g4 hed r2
        have a3 : AF Ω pre[i].fr := by
          have hfr : ∀ x ∈ pre[i].fr, Ω.lookup x = none := by
            intro x hx
            have := List.all_eq_true.1 r3 x hx
            simp only [Bool.and_eq_true, Option.isNone_iff_eq_none] at this
            rw [g4 x fun j s hjs hjl => ?_]
            · exact this.1
            · cases hk : s.wO.lookup x with
              | none => rfl
              | some e =>
                rcases quiet_get this.2 hjs hk with h | h | h
                · omega
                · subst h; rw [hun] at hjl; cases hjl
                · have := edge2_listed h hcl hjl; rw [hun] at this; cases this
          revert hfr
          generalize pre[i].fr = l
          intro hfr
          induction l with
          | nil => trivial
          | cons x l ihl => exact ⟨hfr x (by simp), ihl fun y hy => hfr y (by simp [hy])⟩
        have hnext : ∀ a w, Sat X (pre[i].wG ++ Γ) (pre[i].wO ++ Ω) a w → wpAny X.P .any ops.toArray Q fuel (listed.setIfInBounds i true) a w := by
          intro a w hs2
          have hl2 : ∀ j, (listed.setIfInBounds i true).getD j false = if j = i then true else listed.getD j false := by
            intro j
            by_cases hji : j = i
            · subst hji
              simp [Array.getD_eq_getD_getElem?, Array.getElem?_setIfInBounds, hsz, hilt]
            · have hne : ¬ i = j := fun k => hji k.symm
              simp [Array.getD_eq_getD_getElem?, Array.getElem?_setIfInBounds, hne, hji]
          refine ih fuel _ a w ?_ (by simpa using hsz) (fun j hj1 hj2 => ?_) (by omega) ?_ ⟨_, _, hs2, ?_, ?_, ?_, ?_⟩
          · have hf2 : ((List.range pre.length).filter fun j => !(listed.setIfInBounds i true).getD j false) = ((List.range pre.length).filter fun j => !listed.getD j false).filter fun j => decide (j ≠ i) := by
              rw [List.filter_filter]
              apply List.filter_congr
              intro j _
              rw [hl2 j]
              by_cases hji : j = i <;> simp [hji]
            rw [hf2]
            have hnd : ((List.range pre.length).filter fun j => !listed.getD j false).Nodup := List.Sublist.nodup List.filter_sublist List.nodup_range
            have hmem : i ∈ (List.range pre.length).filter fun j => !listed.getD j false := List.mem_filter.2 ⟨List.mem_range.2 hip, by simp [hun]⟩
            have he : (((List.range pre.length).filter fun j => !listed.getD j false).filter fun j => decide (j ≠ i)) = ((List.range pre.length).filter fun j => !listed.getD j false).erase i := by
              rw [List.Nodup.erase_eq_filter hnd]
              apply List.filter_congr
              intro j _
              by_cases hji : j = i <;> simp [hji]
            rw [he, List.length_erase_of_mem hmem, hn]; rfl
          · rw [hl2 j, if_neg (by omega)]; exact hsf j hj1 hj2
          · intro k q hkq hkl
            rw [hl2 q]
            rw [hl2 k] at hkl
            split
            · rfl
            · by_cases hki : k = i
              · subst hki
                refine hed q ?_
                have : aft ops k = o.after := by simp [aft, ho']
                rw [this] at hkq; exact hkq
              · rw [if_neg hki] at hkl; exact hcl k q hkq hkl
          · intro j s hjs hjl t e ht
            rw [hl2 j] at hjl
            rw [lookup_append']
            by_cases hji : j = i
            · subst hji
              rw [hs'] at hjs; simp only [Option.some.injEq] at hjs; subst hjs
              rw [ht]
            · rw [if_neg hji] at hjl
              cases hk : pre[i].wG.lookup t with
              | some e' => exact absurd (uW hjs hs' ht hk) hji
              | none => exact g1 j s hjs hjl t e ht
          · intro t ht
            rw [lookup_append']
            have h0 := ht i _ hs' (by rw [hl2 i]; simp)
            rw [h0]
            exact g2 t fun j s hjs hjl => ht j s hjs (by rw [hl2 j]; split <;> first | rfl | exact hjl)
          · intro j s hjs hjl t e ht hlast
            rw [hl2 j] at hjl
            rw [lookup_append']
            by_cases hji : j = i
            · subst hji
              rw [hs'] at hjs; simp only [Option.some.injEq] at hjs; subst hjs
              rw [ht]
            · rw [if_neg hji] at hjl
              cases hk : pre[i].wO.lookup t with
              | some e' =>
                exfalso
                rcases Nat.lt_or_gt_of_ne hji with hlt | hgt
                · have := hlast i _ hlt hs' (by rw [hl2 i]; simp)
                  rw [hk] at this; cases this
                · have := edge2_listed (chain_get hch hs' hjs hgt hk ht) hcl hjl
                  rw [hun] at this; cases this
              | none => exact g3 j s hjs hjl t e ht (fun k s' h1 h2 h3 => hlast k s' h1 h2 (by rw [hl2 k]; split <;> first | rfl | exact h3))
          · intro t ht
            rw [lookup_append']
            have h0 := ht i _ hs' (by rw [hl2 i]; simp)
            rw [h0]
            exact g4 t fun j s hjs hjl => ht j s hjs (by rw [hl2 j]; split <;> first | rfl | exact hjl)
        have hg := hstep Γ Ω a1 a2 a3 a w Q hs
        unfold wpOp
        simp only [ho]
        split
        · rename_i hw
          rw [if_pos hw] at hg
          exact .inl (Oper.wp_mono hnext hg)
        · rename_i hw
          rw [if_neg hw] at hg
          exact hnext _ _ hg
theorem later_drew (S : Nat → Prop) (w : World) (n : Nat) : Later S w S { w with drawn := n } := ⟨Nat.le_refl _, fun _ _ _ => rfl, fun _ _ k => k⟩
theorem getD_replicate (n j : Nat) : (Array.replicate n false).getD j false = false := by
  simp only [Array.getD_eq_getD_getElem?, Array.getElem?_replicate]
  split <;> rfl
theorem SatD.drew {Γ : Gam} {Ω : Omg} {a : Act} {w : World} {gs own} (h : SatD X Γ Ω a w gs own) (n : Nat) : SatD X Γ Ω a { w with drawn := n } gs own where
  size := h.size
  defers := h.defers
  glob := h.glob.later (later_drew _ w n)
  fut := ⟨h.fut.os, h.fut.tape, h.fut.output, h.fut.size, h.fut.block⟩
  olt := h.olt
  ownok := h.ownok
  keys := h.keys
  okeys := h.okeys
  obj i e hi := let ⟨v, h1, h2⟩ := h.obj i e hi; ⟨v, h1, e.stable (fun _ _ k => k) h2 (fun _ _ => rfl) (later_drew _ w n)⟩
  ent t e ht := e.mono (fun _ _ k => k) (later_drew _ w n) (h.ent t e ht)
/-- A region that draws its order. -/
theorem JC.draw {id : Nat} (W : List Nat) (hmix : X.P.follows .mixedOrders = true) (pre : List PStep) (hchk : chk ops pre.length = true) (hplen : Nat.ble pre.length ops.length = true) (hall : Alls X ops.toArray pre ops) (hW : keysG pre = W) (dW : distinct W = true) (hch : chain pre ops = true) (hrd : Rds Γ0 Ω0 pre W ops 0 pre ops)
    {rest : List Oper} (hrest : ops.drop pre.length = rest) {Γ1 : Gam} {Ω1 : Omg} (hΓ : finG pre Γ0 = Γ1) (hΩ : finO pre Ω0 = Ω1) (k : JL X ops.toArray Γ1 Ω1 rest Q) : JC X Γ0 Ω0 (.region id ops.toArray true) Q := by
  subst hrest hΓ hΩ
  rintro a w ⟨gs, own, hs⟩
  refine wp_region_any hmix ?_
  refine prefix_any hchk hplen hall hW dW hch hrd k _ _ _ a _ rfl (by simp) (fun j _ hj => ?_) ?_ (fun k i _ hk => by rw [getD_replicate] at hk; cases hk) ⟨Γ0, Ω0, ⟨gs, own, hs.drew _⟩, ?_, fun t _ => rfl, ?_, fun t _ => rfl⟩
  · exact getD_replicate _ _
  · have hpl : pre.length ≤ ops.length := by simpa [Nat.ble_eq] using hplen
    have := List.length_filter_le (fun j => !(Array.replicate ops.toArray.size false).getD j false) (List.range pre.length)
    simp only [List.length_range] at this
    simp only [List.size_toArray] at this ⊢
    omega
  · intro j s _ hl
    rw [getD_replicate] at hl; cases hl
  · intro j s _ hl
    rw [getD_replicate] at hl; cases hl
end
end Go.Trw
