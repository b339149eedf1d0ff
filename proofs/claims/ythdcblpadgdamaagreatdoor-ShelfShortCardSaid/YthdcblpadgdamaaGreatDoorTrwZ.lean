/- Own work: the calculus' rules under short names, what is plain filled in. -/
import Derived.Test.YthdcblpadgdamaaGreatDoorTrwDefer
set_option linter.all false
namespace Go.Trw
open Go
section
variable {X : Ctx} {Γ : Gam} {Ω : Omg} {all : Array Oper} {Q : Exit → Act → World → Prop}
theorem ot {t : Nat} {e : Ent} (h : Γ.lookup t = some e := by first | rfl | exact AGC.get rfl) : Opd Γ (.tmp t) e := Opd.tmp h
theorem ow {t : Nat} {c : Prop} {e : Ent} (hc : c) (h : Γ.lookup t = some (.when c e) := by first | rfl | exact AGC.get rfl) : Opd Γ (.tmp t) e := Opd.tmp_when h hc
theorem oi {k : IntKind} {n : Int} (h : inK k n := by decide) : Opd Γ (.const (.int k n)) (D (RInt k) n) := Opd.int h
theorem oS {s : List UInt8} (h : s.length ≤ maxS := by decide) : Opd Γ (.const (.string ⟨s.toArray⟩)) (D RStr s) := Opd.str h
theorem oB {b : Bool} : Opd Γ (.const (.bool b)) (D RBool b) := Opd.bool
theorem oF {f : Nat} : Opd Γ (.func f) (FV f []) := Opd.func
theorem js {o : Oper} {os : List Oper} {Γ' : Gam} {Ω' : Omg} (h : ST X Γ Ω o Γ' Ω') (k : JL X all Γ' Ω' os Q) (hg : o.guard = none := by rfl) : JL X all Γ Ω (o :: os) Q := JL.step hg h k
theorem jg {o oj : Oper} {os : List Oper} {t d j : Nat} {want b : Bool} {e : Ent} (h : b = want → ST X Γ Ω o ((d, e) :: Γ) Ω) (k : JL X all ((d, .when (b = want) e) :: Γ) Ω os Q)
    (hg : o.guard = some (j, want) := by rfl) (hj : all[j]? = some oj := by rfl) (hdst : oj.dst = some t := by rfl) (ht : Γ.lookup t = some (D RBool b) := by rfl) (ho : o.dst = some d := by rfl) (hd : Nat.blt d X.n = true := by rfl) : JL X all Γ Ω (o :: os) Q :=
  JL.guard hg hj hdst ht ho hd h k
theorem jh {o oj : Oper} {os : List Oper} {t d j : Nat} {want b : Bool} {c : Prop} {e : Ent} (h : c ∧ b = want → ST X Γ Ω o ((d, e) :: Γ) Ω) (k : JL X all ((d, .when (c ∧ b = want) e) :: Γ) Ω os Q)
    (hg : o.guard = some (j, want) := by rfl) (hj : all[j]? = some oj := by rfl) (hdst : oj.dst = some t := by rfl) (ht : Γ.lookup t = some (.when c (D RBool b)) := by rfl) (ho : o.dst = some d := by rfl) (hd : Nat.blt d X.n = true := by rfl) : JL X all Γ Ω (o :: os) Q :=
  JL.guard2 hg hj hdst ht ho hd h k
theorem gu {o : Oper} {Γ' : Gam} {Ω' : Omg} (h : ST X Γ Ω o Γ' Ω') (hg : o.guard = none := by rfl) : GS X all Γ Ω o Γ' Ω' := GS.un hg h
theorem gg {o oj : Oper} {j d t : Nat} {want b : Bool} {e : Ent} (h : b = want → ST X Γ Ω o ((d, e) :: Γ) Ω) (hg : o.guard = some (j, want) := by rfl) (hj : all[j]? = some oj := by rfl) (hdst : oj.dst = some t := by rfl) (ht : Γ.lookup t = some (D RBool b) := by first | rfl | exact AGC.get rfl) (ho : o.dst = some d := by rfl) (hd : Nat.blt d X.n = true := by rfl) :
    GS X all Γ Ω o ((d, .when (b = want) e) :: Γ) Ω := GS.guard hg hj hdst ht ho hd h
theorem gh {o oj : Oper} {j d t : Nat} {want b : Bool} {c : Prop} {e : Ent} (h : c ∧ b = want → ST X Γ Ω o ((d, e) :: Γ) Ω) (hg : o.guard = some (j, want) := by rfl) (hj : all[j]? = some oj := by rfl) (hdst : oj.dst = some t := by rfl) (ht : Γ.lookup t = some (.when c (D RBool b)) := by first | rfl | exact AGC.get rfl) (ho : o.dst = some d := by rfl) (hd : Nat.blt d X.n = true := by rfl) :
    GS X all Γ Ω o ((d, .when (c ∧ b = want) e) :: Γ) Ω := GS.guard2 hg hj hdst ht ho hd h
theorem cs {x y : Code} (h : JC X Γ Ω x (Exit.then (y.wp X.P Q) Q)) : JC X Γ Ω (x.seq y) Q := JC.seq h
theorem cr {id : Nat} {ops : List Oper} (h : JL X ops.toArray Γ Ω ops Q) : JC X Γ Ω (.region id ops.toArray false) Q := JC.region h
theorem ck (h : JE X Γ Ω Q .normal) : JC X Γ Ω .skip Q := JC.skip h
theorem cx {id : Nat} (h : JE X Γ Ω Q (.exit id)) : JC X Γ Ω (.exit id) Q := JC.exit h
theorem ct (h : JE X Γ Ω Q .ret) : JC X Γ Ω .ret Q := JC.ret h
theorem cb {id : Nat} {c : Code} (h : JC X Γ Ω c (Exit.inBlock id Q)) : JC X Γ Ω (.block id c) Q := JC.block h
theorem jn (h : JE X Γ Ω Q .normal) : JL X all Γ Ω [] Q := JL.nil h
theorem tn {c : Code} (h : JC X Γ Ω c Q) : JE X Γ Ω (Exit.then (c.wp X.P Q) Q) .normal := h
theorem tx {K : Act → World → Prop} {id : Nat} (h : JE X Γ Ω Q (.exit id)) : JE X Γ Ω (Exit.then K Q) (.exit id) := h
theorem tr {K : Act → World → Prop} (h : JE X Γ Ω Q .ret) : JE X Γ Ω (Exit.then K Q) .ret := h
theorem bn {id : Nat} (h : JE X Γ Ω Q .normal) : JE X Γ Ω (Exit.inBlock id Q) .normal := h
theorem br {id : Nat} (h : JE X Γ Ω Q .ret) : JE X Γ Ω (Exit.inBlock id Q) .ret := h
theorem bx {id : Nat} (h : JE X Γ Ω Q .normal) : JE X Γ Ω (Exit.inBlock id Q) (.exit id) := JE.block_exit h
theorem bo {id id' : Nat} (h : JE X Γ Ω Q (.exit id')) (hne : (id' == id) = false := by rfl) : JE X Γ Ω (Exit.inBlock id Q) (.exit id') := JE.block_other hne h
theorem sr {id : Nat} {ops : List Oper} {y : Code} (h : JL X ops.toArray Γ Ω ops (Exit.then (y.wp X.P Q) Q)) : JC X Γ Ω (Code.seq (.region id ops.toArray false) y) Q := JC.seq (JC.region h)
theorem nt {c : Code} (h : JC X Γ Ω c Q) : JL X all Γ Ω [] (Exit.then (c.wp X.P Q) Q) := JL.nil (JE.then_normal h)
theorem cn {γ : Sort _} {A B r : γ} {c : Operand} {x y : Code} {b : Bool} (ht : Opd Γ c (D RBool b)) (hm : (if b = true then A else B) = r) (h1 : b = true → A = r → JC X Γ Ω x Q) (h2 : b = false → B = r → JC X Γ Ω y Q) : JC X Γ Ω (.cond c x y) Q :=
  JC.cond ht (fun hc => h1 hc (of_pos hc hm)) (fun hc => h2 hc (of_neg hc hm))
theorem og {γ : Type _} {c : Prop} [Decidable c] {a : Option γ} {r : γ} (h : (if c then a else none) = some r) : c ∧ a = some r := of_guard h
theorem ob {γ δ : Type _} {m : Option γ} {f : γ → Option δ} {r : δ} (h : m.bind f = some r) : ∃ x, m = some x ∧ f x = some r := of_bind h
theorem fp {P : Program} {T f : Nat} {pl : List (Nat × Nat)} {p : Nat × Nat} (h : placesOf P T = some pl) (hf : pl[f]? = some p := by rfl) : fieldOff P T f = some p := fieldOff_places h hf
theorem mt {Γm : Gam} {Ωm : Omg} {K : Act → World → Prop} (hK : ∀ a w, Sat X Γm Ωm a w → K a w)
    (hΓ : CV (Ωm.map Prod.fst) Γ Γm := by repeat' first | exact CV.nil | refine CV.cons rfl ?_ ?_ | exact Keeps.dat | exact Keeps.bp rfl | exact Keeps.os rfl | exact Keeps.ep rfl | exact Keeps.nx | refine Keeps.fv ?_ | refine Keeps.bm ?_ | refine Keeps.tup ?_ | refine Keeps.dh ?_ | refine Keeps.when ?_ | exact KeepsAll.nil | refine KeepsAll.cons ?_ ?_ | exact HKeep.nil | refine HKeep.cons ?_ ?_)
    (hΩ : OVK (Ωm.map Prod.fst) Ω Ωm := by repeat' first | exact OVK.nil | refine OVK.cons rfl ?_ ?_ | exact KeepsO.box | exact KeepsO.sl | exact KeepsO.dead | exact KeepsO.bld | exact KeepsO.it | exact KeepsO.mD | refine KeepsO.boxH ?_ | exact HKeep.nil | refine HKeep.cons ?_ ?_ | exact Keeps.dat | exact Keeps.bp rfl | exact Keeps.os rfl | exact Keeps.ep rfl | refine Keeps.fv ?_ | refine Keeps.bm ?_ | exact KeepsAll.nil | refine KeepsAll.cons ?_ ?_) : JE X Γ Ω (Exit.then K Q) .normal := JE.meet hK hΓ hΩ
theorem ml {Γm : Gam} {Ωm : Omg} (a : Act) (w : World) (hs : Sat X Γ Ω a w)
    (hΓ : CV (Ωm.map Prod.fst) Γ Γm := by repeat' first | exact CV.nil | refine CV.cons rfl ?_ ?_ | exact Keeps.dat | exact Keeps.bp rfl | exact Keeps.os rfl | exact Keeps.ep rfl | exact Keeps.nx | refine Keeps.fv ?_ | refine Keeps.bm ?_ | refine Keeps.tup ?_ | refine Keeps.dh ?_ | refine Keeps.when ?_ | exact KeepsAll.nil | refine KeepsAll.cons ?_ ?_ | exact HKeep.nil | refine HKeep.cons ?_ ?_)
    (hΩ : OVK (Ωm.map Prod.fst) Ω Ωm := by repeat' first | exact OVK.nil | refine OVK.cons rfl ?_ ?_ | exact KeepsO.box | exact KeepsO.sl | exact KeepsO.dead | exact KeepsO.bld | exact KeepsO.it | exact KeepsO.mD | refine KeepsO.boxH ?_ | exact HKeep.nil | refine HKeep.cons ?_ ?_ | exact Keeps.dat | exact Keeps.bp rfl | exact Keeps.os rfl | exact Keeps.ep rfl | refine Keeps.fv ?_ | refine Keeps.bm ?_ | exact KeepsAll.nil | refine KeepsAll.cons ?_ ?_) : Sat X Γm Ωm a w := hs.conv hΓ hΩ
/-- The slots and objects that live on. -/
inductive CVP (ks : List Nat) (Γ : Gam) : List Nat → Gam → Prop
  | nil : CVP ks Γ [] []
  | cons {t e ts Γ'} : Γ.lookup t = some e → Keeps ks e → CVP ks Γ ts Γ' → CVP ks Γ (t :: ts) ((t, e) :: Γ')
inductive OVP (ks : List Nat) (Ω : Omg) : List Nat → Omg → Prop
  | nil : OVP ks Ω [] []
  | cons {t e ts Ω'} : Ω.lookup t = some e → KeepsO ks e → OVP ks Ω ts Ω' → OVP ks Ω (t :: ts) ((t, e) :: Ω')
theorem CVP.cv {ks : List Nat} : ∀ {ts : List Nat} {Γ' : Gam}, CVP ks Γ ts Γ' → CV ks Γ Γ'
  | _, _, .nil => .nil
  | _, _, .cons h k t => .cons h k t.cv
theorem OVP.ov {ks : List Nat} : ∀ {ts : List Nat} {Ω' : Omg}, OVP ks Ω ts Ω' → OVK ks Ω Ω' ∧ Ω'.map Prod.fst = ts
  | _, _, .nil => ⟨.nil, rfl⟩
  | _, _, .cons h k t => ⟨.cons h k t.ov.1, by simp [t.ov.2]⟩
theorem jv {Γ' : Gam} {Ω' : Omg} {os : List Oper} (ts is : List Nat) (h : JL X all Γ' Ω' os Q)
    (hΓ : CVP is Γ ts Γ' := by repeat' first | exact CVP.nil | apply CVP.cons | rfl | exact Keeps.dat | exact Keeps.bp rfl | exact Keeps.os rfl | exact Keeps.ep rfl | exact Keeps.nx | refine Keeps.fv ?_ | refine Keeps.bm ?_ | refine Keeps.tup ?_ | refine Keeps.dh ?_ | refine Keeps.when ?_ | exact KeepsAll.nil | refine KeepsAll.cons ?_ ?_ | exact HKeep.nil | refine HKeep.cons ?_ ?_)
    (hΩ : OVP is Ω is Ω' := by repeat' first | exact OVP.nil | apply OVP.cons | rfl | exact KeepsO.box | exact KeepsO.sl | exact KeepsO.dead | exact KeepsO.bld | exact KeepsO.it | exact KeepsO.mD | refine KeepsO.boxH ?_ | exact HKeep.nil | refine HKeep.cons ?_ ?_ | exact Keeps.dat | exact Keeps.bp rfl | exact Keeps.os rfl | exact Keeps.ep rfl | refine Keeps.fv ?_ | refine Keeps.bm ?_ | exact KeepsAll.nil | refine KeepsAll.cons ?_ ?_) : JL X all Γ Ω os Q :=
  JL.conv (Γ' := Γ') (Ω' := Ω') (by rw [hΩ.ov.2]; exact hΓ.cv) (by rw [hΩ.ov.2]; exact hΩ.ov.1) h
/-- The entries of some slots, of some objects. -/
def restr (ts : List Nat) (Γ : Gam) : Gam := ts.filterMap fun t => (Γ.lookup t).map fun e => (t, e)
def restrO (ts : List Nat) (Ω : Omg) : Omg := ts.filterMap fun t => (Ω.lookup t).map fun e => (t, e)
theorem restr_mem {ts : List Nat} {Γ : Gam} {t : Nat} {e : Ent} (h : (t, e) ∈ restr ts Γ) : Γ.lookup t = some e := by
  simp only [restr, List.mem_filterMap, Option.map_eq_some_iff, Prod.mk.injEq] at h
  obtain ⟨x, _, y, h1, rfl, rfl⟩ := h
  exact h1
theorem restrO_mem {ts : List Nat} {Ω : Omg} {t : Nat} {e : OEnt} (h : (t, e) ∈ restrO ts Ω) : Ω.lookup t = some e := by
  simp only [restrO, List.mem_filterMap, Option.map_eq_some_iff, Prod.mk.injEq] at h
  obtain ⟨x, _, y, h1, rfl, rfl⟩ := h
  exact h1
/-- The operations of a drawn region, in the order of the text; each is proved of what it reads alone. -/
inductive Dr (X : Ctx) (all : Array Oper) : Gam → Omg → List PStep → List Oper → Prop
  | nil {Γ Ω os} : Dr X all Γ Ω [] os
  | cons {Γ Ω o wG wO ps os} (ts is fr : List Nat) : (∀ {Γ' : Gam} {Ω' : Omg} [AGC Γ' (restr ts Γ)] [AOC Ω' (restrO is Ω)] [AFC Ω' fr], GS X all Γ' Ω' o (wG ++ Γ') (wO ++ Ω')) → Dr X all (wG ++ Γ) (wO ++ Ω) ps os → Dr X all Γ Ω (⟨restr ts Γ, wG, restrO is Ω, wO, fr⟩ :: ps) (o :: os)
theorem Dr.alls {X : Ctx} {all : Array Oper} : ∀ {Γ : Gam} {Ω : Omg} {ps : List PStep} {os : List Oper}, Dr X all Γ Ω ps os → Alls X all ps os
  | _, _, _, _, .nil => .nil
  | _, _, _, _, .cons ts is fr h t => .cons (fun Γ' Ω' a b c => @h Γ' Ω' ⟨a⟩ ⟨b⟩ ⟨c⟩) t.alls
def lastG (pre : List PStep) (t : Nat) : Nat → Option Nat
  | 0 => none
  | n + 1 => match pre[n]? with
    | some s => if (s.wG.lookup t).isSome = true then some n else lastG pre t n
    | none => lastG pre t n
def lastO (pre : List PStep) (t : Nat) : Nat → Option Nat
  | 0 => none
  | n + 1 => match pre[n]? with
    | some s => if (s.wO.lookup t).isSome = true then some n else lastO pre t n
    | none => lastO pre t n
theorem finG_snoc (d : List PStep) (s : PStep) (Γ0 : Gam) : finG (d ++ [s]) Γ0 = s.wG ++ finG d Γ0 := by simp [finG, List.foldl_append]
theorem finO_snoc (d : List PStep) (s : PStep) (Ω0 : Omg) : finO (d ++ [s]) Ω0 = s.wO ++ finO d Ω0 := by simp [finO, List.foldl_append]
theorem lookup_app {β : Type _} (t : Nat) : ∀ (l r : List (Nat × β)), (l ++ r).lookup t = match l.lookup t with | some e => some e | none => r.lookup t
  | [], _ => rfl
  | (k, x) :: l, r => by
    rw [List.cons_append, lookup_cons, lookup_cons]
    by_cases h : t = k
    · simp [h]
    · rw [if_neg h, if_neg h]; exact lookup_app t l r
theorem lastG_spec {pre : List PStep} {t : Nat} {Γ0 : Gam} : ∀ {d r : List PStep}, pre = d ++ r → match lastG pre t d.length with
    | some k => ∃ s e, pre[k]? = some s ∧ s.wG.lookup t = some e ∧ (finG d Γ0).lookup t = some e
    | none => (finG d Γ0).lookup t = Γ0.lookup t := by
  intro d
  induction h : d.length generalizing d with
  | zero => intro r hp; have := List.eq_nil_of_length_eq_zero h; subst this; rfl
  | succ n ih =>
    intro r hp
    rcases List.eq_nil_or_concat d with hd | ⟨d', s, hd⟩
    · subst hd; cases h
    · rw [List.concat_eq_append] at hd
      subst hd
      have hn : d'.length = n := by simpa using h
      have hp' : pre = d' ++ (s :: r) := by rw [hp]; simp
      have hs : pre[n]? = some s := by rw [hp', List.getElem?_append_right (by omega)]; simp [hn]
      have := ih hn hp'
      unfold lastG
      simp only [hs]
      rw [finG_snoc, lookup_app]
      cases hl : s.wG.lookup t with
      | some e => simp only [Option.isSome_some, if_true]; exact ⟨s, e, hs, hl, rfl⟩
      | none => simpa using this
theorem lastO_spec {pre : List PStep} {t : Nat} {Ω0 : Omg} : ∀ {d r : List PStep}, pre = d ++ r → match lastO pre t d.length with
    | some k => ∃ s e, pre[k]? = some s ∧ s.wO.lookup t = some e ∧ (finO d Ω0).lookup t = some e
    | none => (finO d Ω0).lookup t = Ω0.lookup t := by
  intro d
  induction h : d.length generalizing d with
  | zero => intro r hp; have := List.eq_nil_of_length_eq_zero h; subst this; rfl
  | succ n ih =>
    intro r hp
    rcases List.eq_nil_or_concat d with hd | ⟨d', s, hd⟩
    · subst hd; cases h
    · rw [List.concat_eq_append] at hd
      subst hd
      have hn : d'.length = n := by simpa using h
      have hp' : pre = d' ++ (s :: r) := by rw [hp]; simp
      have hs : pre[n]? = some s := by rw [hp', List.getElem?_append_right (by omega)]; simp [hn]
      have := ih hn hp'
      unfold lastO
      simp only [hs]
      rw [finO_snoc, lookup_app]
      cases hl : s.wO.lookup t with
      | some e => simp only [Option.isSome_some, if_true]; exact ⟨s, e, hs, hl, rfl⟩
      | none => simpa using this
def ckG (pre : List PStep) (W : List Nat) (af : Array Edge) (n t : Nat) : Bool := match lastG pre t n with
  | some k => edge af k
  | none => !W.contains t
def ckO (pre : List PStep) (ops : List Oper) (af : Array Edge) (n t : Nat) : Bool := match lastO pre t n with
  | some k => edge af k && quiet pre ops t n (k + 1)
  | none => quiet pre ops t n 0
def rdck (pre : List PStep) (W : List Nat) (ops : List Oper) (Ω0 : Omg) : Nat → List PStep → List Oper → Bool
  | _, [], _ => true
  | n, s :: ps, o :: os => s.rG.all (fun p => ckG pre W o.after n p.1) && s.rO.all (fun p => ckO pre ops o.after n p.1) && s.fr.all (fun x => (Ω0.lookup x).isNone && quiet pre ops x n 0) && rdck pre W ops Ω0 (n + 1) ps os
  | _, _ :: _, [] => false
theorem RdG.of {Γ0 : Gam} {pre d r : List PStep} {W : List Nat} {af : Array Edge} (hp : pre = d ++ r) : ∀ {l : Gam}, (∀ t e, (t, e) ∈ l → (finG d Γ0).lookup t = some e) → l.all (fun p => ckG pre W af d.length p.1) = true → RdG Γ0 pre W af l
  | [], _, _ => .nil
  | (t, e) :: l, h, hc => by
    simp only [List.all_cons, Bool.and_eq_true] at hc
    have k := RdG.of hp (fun t e hm => h t e (List.mem_cons_of_mem _ hm)) hc.2
    have he := h t e List.mem_cons_self
    have h1 := hc.1
    unfold ckG at h1
    have hs := lastG_spec (t := t) (Γ0 := Γ0) hp
    cases hl : lastG pre t d.length with
    | none =>
      rw [hl] at hs h1
      exact .old (by simpa using h1) (by rw [← hs]; exact he) k
    | some j =>
      rw [hl] at hs h1
      obtain ⟨s, e', k1, k2, k3⟩ := hs
      rw [he] at k3; cases k3
      exact .new j k1 k2 h1 k
theorem RdO.of {Ω0 : Omg} {pre d r : List PStep} {ops : List Oper} {af : Array Edge} (hp : pre = d ++ r) : ∀ {l : Omg}, (∀ t e, (t, e) ∈ l → (finO d Ω0).lookup t = some e) → l.all (fun p => ckO pre ops af d.length p.1) = true → RdO Ω0 pre ops d.length af l
  | [], _, _ => .nil
  | (t, e) :: l, h, hc => by
    simp only [List.all_cons, Bool.and_eq_true] at hc
    have k := RdO.of hp (fun t e hm => h t e (List.mem_cons_of_mem _ hm)) hc.2
    have he := h t e List.mem_cons_self
    have h1 := hc.1
    unfold ckO at h1
    have hs := lastO_spec (t := t) (Ω0 := Ω0) hp
    cases hl : lastO pre t d.length with
    | none =>
      rw [hl] at hs h1
      exact .old h1 (by rw [← hs]; exact he) k
    | some j =>
      rw [hl] at hs h1
      simp only [Bool.and_eq_true] at h1
      obtain ⟨s, e', k1, k2, k3⟩ := hs
      rw [he] at k3; cases k3
      exact .new j k1 k2 h1.1 h1.2 k
theorem Dr.rds {X : Ctx} {all : Array Oper} {Γ0 : Gam} {Ω0 : Omg} {pre : List PStep} {W : List Nat} {ops : List Oper} : ∀ {Γ : Gam} {Ω : Omg} {ps : List PStep} {os : List Oper} {d : List PStep}, Dr X all Γ Ω ps os → pre = d ++ ps → Γ = finG d Γ0 → Ω = finO d Ω0 → rdck pre W ops Ω0 d.length ps os = true → Rds Γ0 Ω0 pre W ops d.length ps os
  | _, _, _, _, _, .nil, _, _, _, _ => .nil
  | _, _, _, _, d, .cons (wG := wG) (wO := wO) (ps := ps) (o := o) ts is fr h t, hp, hΓ, hΩ, hc => by
    simp only [rdck, Bool.and_eq_true] at hc
    obtain ⟨⟨⟨c1, c2⟩, c3⟩, c4⟩ := hc
    subst hΓ hΩ
    have hlen : (d ++ [(⟨restr ts (finG d Γ0), wG, restrO is (finO d Ω0), wO, fr⟩ : PStep)]).length = d.length + 1 := by simp
    have ht := t.rds (Γ0 := Γ0) (Ω0 := Ω0) (pre := pre) (W := W) (ops := ops) (d := d ++ [⟨restr ts (finG d Γ0), wG, restrO is (finO d Ω0), wO, fr⟩]) (by rw [hp]; simp) (by rw [finG_snoc]) (by rw [finO_snoc]) (by rw [hlen]; exact c4)
    rw [hlen] at ht
    exact .cons (RdG.of hp (fun _ _ hm => restr_mem hm) c1) (RdO.of hp (fun _ _ hm => restrO_mem hm) c2) c3 ht
def drck (pre : List PStep) (ops : List Oper) (Ω0 : Omg) : Bool := chk ops pre.length && Nat.ble pre.length ops.length && distinct (keysG pre) && chain pre ops && rdck pre (keysG pre) ops Ω0 0 pre ops
theorem cd {id : Nat} {ops : List Oper} {pre : List PStep} (hmix : X.P.follows .mixedOrders = true) (h : Dr X ops.toArray Γ Ω pre ops) (k : JL X ops.toArray (finG pre Γ) (finO pre Ω) (ops.drop pre.length) Q) (hck : drck pre ops Ω = true := by kernel_rfl) : JC X Γ Ω (.region id ops.toArray true) Q := by
  simp only [drck, Bool.and_eq_true] at hck
  obtain ⟨⟨⟨⟨h1, h2⟩, h3⟩, h4⟩, h5⟩ := hck
  exact JC.draw (keysG pre) hmix pre h1 h2 h.alls rfl h3 h4 (h.rds (d := []) rfl rfl rfl h5) rfl rfl rfl k
section
variable {o : Oper} {ps : List PStep} {os : List Oper} {d i j : Nat} {e : Ent} {x y : OEnt} {Ωn : Omg}
theorem an : Dr X all Γ Ω [] os := .nil
theorem da (ts : List Nat) (h : ∀ {Γ' : Gam} {Ω' : Omg} [AGC Γ' (restr ts Γ)], GS X all Γ' Ω' o ((d, e) :: Γ') Ω') (t : Dr X all ((d, e) :: Γ) Ω ps os) : Dr X all Γ Ω (⟨restr ts Γ, [(d, e)], restrO [] Ω, [], []⟩ :: ps) (o :: os) := .cons ts [] [] (fun {_ _} _ _ _ => h) t
theorem db (ts is fr : List Nat) (h : ∀ {Γ' : Gam} {Ω' : Omg} [AGC Γ' (restr ts Γ)] [AOC Ω' (restrO is Ω)] [AFC Ω' fr], GS X all Γ' Ω' o ((d, e) :: Γ') Ω') (t : Dr X all ((d, e) :: Γ) Ω ps os) : Dr X all Γ Ω (⟨restr ts Γ, [(d, e)], restrO is Ω, [], fr⟩ :: ps) (o :: os) := .cons ts is fr h t
theorem dc (ts is fr : List Nat) (h : ∀ {Γ' : Gam} {Ω' : Omg} [AGC Γ' (restr ts Γ)] [AOC Ω' (restrO is Ω)] [AFC Ω' fr], GS X all Γ' Ω' o Γ' ((i, x) :: Ω')) (t : Dr X all Γ ((i, x) :: Ω) ps os) : Dr X all Γ Ω (⟨restr ts Γ, [], restrO is Ω, [(i, x)], fr⟩ :: ps) (o :: os) := .cons ts is fr h t
theorem dd (ts is fr : List Nat) (h : ∀ {Γ' : Gam} {Ω' : Omg} [AGC Γ' (restr ts Γ)] [AOC Ω' (restrO is Ω)] [AFC Ω' fr], GS X all Γ' Ω' o ((d, e) :: Γ') ((i, x) :: Ω')) (t : Dr X all ((d, e) :: Γ) ((i, x) :: Ω) ps os) : Dr X all Γ Ω (⟨restr ts Γ, [(d, e)], restrO is Ω, [(i, x)], fr⟩ :: ps) (o :: os) := .cons ts is fr h t
theorem de (ts is fr : List Nat) (h : ∀ {Γ' : Gam} {Ω' : Omg} [AGC Γ' (restr ts Γ)] [AOC Ω' (restrO is Ω)] [AFC Ω' fr], GS X all Γ' Ω' o ((d, e) :: Γ') (Ωn ++ Ω')) (t : Dr X all ((d, e) :: Γ) (Ωn ++ Ω) ps os) : Dr X all Γ Ω (⟨restr ts Γ, [(d, e)], restrO is Ω, Ωn, fr⟩ :: ps) (o :: os) := .cons ts is fr h t
theorem df (ts is fr : List Nat) (h : ∀ {Γ' : Gam} {Ω' : Omg} [AGC Γ' (restr ts Γ)] [AOC Ω' (restrO is Ω)] [AFC Ω' fr], GS X all Γ' Ω' o ((d, e) :: Γ') ((i, x) :: (j, y) :: Ω')) (t : Dr X all ((d, e) :: Γ) ((i, x) :: (j, y) :: Ω) ps os) : Dr X all Γ Ω (⟨restr ts Γ, [(d, e)], restrO is Ω, [(i, x), (j, y)], fr⟩ :: ps) (o :: os) := .cons ts is fr h t
end
theorem PI {B : World → Prop} {P : Program} {f : Nat} {fn : Func} {c : Code} {ins : List Ent} {out : Ent} {n : Nat} {Γ0 : Gam} (hf : P.funcs[f]? = some fn)
    (h : ∀ w U, JC ⟨P, fn, n, w, U, fun _ => False, B, []⟩ Γ0 [] c (bodyPost P fn (RetP out w U))) (hb : fn.body = some c := by rfl) (hn : fn.ntmps = n := by rfl) (hl : Nat.ble ins.length n = true := by rfl) (hΓ : enterΓ ins = Γ0 := by rfl) : PCon B P f ins out :=
  PCon.intro hf hb hn hl hΓ h
theorem SI {B : World → Prop} {P : Program} {f : Nat} {fn : Func} {c : Code} {ins : List Ent} {Ωi Ωo : Omg} {out : Ent} {n : Nat} {Γ0 : Gam} (hf : P.funcs[f]? = some fn) (Ω0 : (Nat → Option Value) → Omg) (hp : ∀ gs, Pin gs Ωi (Ω0 gs))
    (h : ∀ w U gs own, KeysIn gs Ωi → JC ⟨P, fn, n, w, U, fun b => (own b).isSome = true, B, []⟩ Γ0 (Ω0 gs) c (bodyPost P fn (RetS Ωo out w U gs own))) (hb : fn.body = some c := by rfl) (hn : fn.ntmps = n := by rfl) (hl : Nat.ble ins.length n = true := by rfl) (hΓ : enterΓ ins = Γ0 := by rfl) : SCon B P f Ωi ins Ωo out :=
  SCon.intro hf hb Ω0 hn hl hΓ hp h
end
end Go.Trw
