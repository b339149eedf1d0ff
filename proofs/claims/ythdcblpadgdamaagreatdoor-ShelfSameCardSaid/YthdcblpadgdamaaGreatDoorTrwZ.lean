/- Own work: the calculus' rules under short names, what is plain filled in. -/
import Derived.Test.YthdcblpadgdamaaGreatDoorTrwDefer
set_option linter.all false
namespace Go.Trw
open Go
section
variable {X : Ctx} {Γ : Gam} {Ω : Omg} {all : Array Oper} {Q : Exit → Act → World → Prop}
theorem ot {t : Nat} {e : Ent} (h : Γ.lookup t = some e := by rfl) : Opd Γ (.tmp t) e := Opd.tmp h
theorem ow {t : Nat} {c : Prop} {e : Ent} (hc : c) (h : Γ.lookup t = some (.when c e) := by rfl) : Opd Γ (.tmp t) e := Opd.tmp_when h hc
theorem oi {k : IntKind} {n : Int} (h : inK k n := by decide) : Opd Γ (.const (.int k n)) (D (RInt k) n) := Opd.int h
theorem oS {s : List UInt8} (h : s.length ≤ maxS := by decide) : Opd Γ (.const (.string ⟨s.toArray⟩)) (D RStr s) := Opd.str h
theorem oB {b : Bool} : Opd Γ (.const (.bool b)) (D RBool b) := Opd.bool
theorem oF {f : Nat} : Opd Γ (.func f) (FV f []) := Opd.func
theorem js {o : Oper} {os : List Oper} {Γ' : Gam} {Ω' : Omg} (h : ST X Γ Ω o Γ' Ω') (k : JL X all Γ' Ω' os Q) (hg : o.guard = none := by rfl) : JL X all Γ Ω (o :: os) Q := JL.step hg h k
theorem jg {o oj : Oper} {os : List Oper} {t d j : Nat} {want b : Bool} {e : Ent} (h : b = want → ST X Γ Ω o ((d, e) :: Γ) Ω) (k : JL X all ((d, .when (b = want) e) :: Γ) Ω os Q)
    (hg : o.guard = some (j, want) := by rfl) (hj : all[j]? = some oj := by rfl) (hdst : oj.dst = some t := by rfl) (ht : Γ.lookup t = some (D RBool b) := by rfl) (ho : o.dst = some d := by rfl) (hd : Nat.blt d X.n = true := by rfl) : JL X all Γ Ω (o :: os) Q :=
  JL.guard hg hj hdst ht ho hd h k
theorem jh {o oj : Oper} {os : List Oper} {t d j : Nat} {want b : Bool} {c : Prop} {e : Ent} (h : c ∧ b = want → ST X Γ Ω o ((d, e) :: Γ) Ω) (k : JL X all ((d, .when (c ∧ b = want) e) :: Γ) Ω os Q)
    (hg : o.guard = some (j, want) := by rfl) (hj : all[j]? = some oj := by rfl) (hdst : oj.dst = some t := by rfl) (ht : Γ.lookup t = some (.when c (D RBool b)) := by rfl) (ho : o.dst = some d := by rfl) (hd : Nat.blt d X.n = true := by rfl) : JL X all Γ Ω (o :: os) Q :=
  JL.guard2 hg hj hdst ht ho hd h k
theorem gu {o : Oper} {Γ' : Gam} {Ω' : Omg} (h : ST X Γ Ω o Γ' Ω') (hg : o.guard = none := by rfl) : GS X all Γ Ω o Γ' Ω' := GS.un hg h
theorem gg {o oj : Oper} {j d t : Nat} {want b : Bool} {e : Ent} (ht : Γ.lookup t = some (D RBool b)) (h : b = want → ST X Γ Ω o ((d, e) :: Γ) Ω) (hg : o.guard = some (j, want) := by rfl) (hj : all[j]? = some oj := by rfl) (hdst : oj.dst = some t := by rfl) (ho : o.dst = some d := by rfl) (hd : Nat.blt d X.n = true := by rfl) :
    GS X all Γ Ω o ((d, .when (b = want) e) :: Γ) Ω := GS.guard hg hj hdst ht ho hd h
theorem gh {o oj : Oper} {j d t : Nat} {want b : Bool} {c : Prop} {e : Ent} (ht : Γ.lookup t = some (.when c (D RBool b))) (h : c ∧ b = want → ST X Γ Ω o ((d, e) :: Γ) Ω) (hg : o.guard = some (j, want) := by rfl) (hj : all[j]? = some oj := by rfl) (hdst : oj.dst = some t := by rfl) (ho : o.dst = some d := by rfl) (hd : Nat.blt d X.n = true := by rfl) :
    GS X all Γ Ω o ((d, .when (c ∧ b = want) e) :: Γ) Ω := GS.guard2 hg hj hdst ht ho hd h
theorem cs {x y : Code} (h : JC X Γ Ω x (Exit.then (y.wp X.P Q) Q)) : JC X Γ Ω (x.seq y) Q := JC.seq h
theorem cr {id : Nat} {ops : List Oper} (h : JL X ops.toArray Γ Ω ops Q) : JC X Γ Ω (.region id ops.toArray false) Q := JC.region h
theorem ck (h : JE X Γ Ω Q .normal) : JC X Γ Ω .skip Q := JC.skip h
theorem cx {id : Nat} (h : JE X Γ Ω Q (.exit id)) : JC X Γ Ω (.exit id) Q := JC.exit h
theorem ct (h : JE X Γ Ω Q .ret) : JC X Γ Ω .ret Q := JC.ret h
theorem cb {id : Nat} {c : Code} (h : JC X Γ Ω c (Exit.inBlock id Q)) : JC X Γ Ω (.block id c) Q := JC.block h
theorem jn (h : JE X Γ Ω Q .normal) : JL X all Γ Ω [] Q := JL.nil h
theorem tn {c : Code} (h : JC X Γ Ω c Q) : JE X Γ Ω (Exit.then (c.wp X.P Q) Q) .normal := h
theorem tx {K : Act → World → Prop} {id : Nat} (h : JE X Γ Ω Q (.exit id)) : JE X Γ Ω (Exit.then K Q) (.exit id) := h
theorem tr {K : Act → World → Prop} (h : JE X Γ Ω Q .ret) : JE X Γ Ω (Exit.then K Q) .ret := h
theorem bn {id : Nat} (h : JE X Γ Ω Q .normal) : JE X Γ Ω (Exit.inBlock id Q) .normal := h
theorem br {id : Nat} (h : JE X Γ Ω Q .ret) : JE X Γ Ω (Exit.inBlock id Q) .ret := h
theorem bx {id : Nat} (h : JE X Γ Ω Q .normal) : JE X Γ Ω (Exit.inBlock id Q) (.exit id) := JE.block_exit h
theorem bo {id id' : Nat} (h : JE X Γ Ω Q (.exit id')) (hne : (id' == id) = false := by rfl) : JE X Γ Ω (Exit.inBlock id Q) (.exit id') := JE.block_other hne h
theorem sr {id : Nat} {ops : List Oper} {y : Code} (h : JL X ops.toArray Γ Ω ops (Exit.then (y.wp X.P Q) Q)) : JC X Γ Ω (Code.seq (.region id ops.toArray false) y) Q := JC.seq (JC.region h)
theorem nt {c : Code} (h : JC X Γ Ω c Q) : JL X all Γ Ω [] (Exit.then (c.wp X.P Q) Q) := JL.nil (JE.then_normal h)
theorem cn {γ : Sort _} {A B r : γ} {c : Operand} {x y : Code} {b : Bool} (ht : Opd Γ c (D RBool b)) (hm : (if b = true then A else B) = r) (h1 : b = true → A = r → JC X Γ Ω x Q) (h2 : b = false → B = r → JC X Γ Ω y Q) : JC X Γ Ω (.cond c x y) Q :=
  JC.cond ht (fun hc => h1 hc (of_pos hc hm)) (fun hc => h2 hc (of_neg hc hm))
theorem og {γ : Type _} {c : Prop} [Decidable c] {a : Option γ} {r : γ} (h : (if c then a else none) = some r) : c ∧ a = some r := of_guard h
theorem ob {γ δ : Type _} {m : Option γ} {f : γ → Option δ} {r : δ} (h : m.bind f = some r) : ∃ x, m = some x ∧ f x = some r := of_bind h
theorem fp {P : Program} {T f : Nat} {pl : List (Nat × Nat)} {p : Nat × Nat} (h : placesOf P T = some pl) (hf : pl[f]? = some p := by rfl) : fieldOff P T f = some p := fieldOff_places h hf
theorem mt {Γm : Gam} {Ωm : Omg} {K : Act → World → Prop} (hK : ∀ a w, Sat X Γm Ωm a w → K a w)
    (hΓ : CV (Ωm.map Prod.fst) Γ Γm := by repeat' first | exact CV.nil | refine CV.cons rfl ?_ ?_ | exact Keeps.dat | exact Keeps.bp rfl | exact Keeps.os rfl | exact Keeps.ep rfl | exact Keeps.nx | refine Keeps.fv ?_ | refine Keeps.bm ?_ | refine Keeps.tup ?_ | refine Keeps.dh ?_ | refine Keeps.when ?_ | exact KeepsAll.nil | refine KeepsAll.cons ?_ ?_ | exact HKeep.nil | refine HKeep.cons ?_ ?_)
    (hΩ : OVK (Ωm.map Prod.fst) Ω Ωm := by repeat' first | exact OVK.nil | refine OVK.cons rfl ?_ ?_ | exact KeepsO.box | exact KeepsO.sl | exact KeepsO.dead | exact KeepsO.bld | exact KeepsO.it | exact KeepsO.mD | refine KeepsO.boxH ?_ | exact HKeep.nil | refine HKeep.cons ?_ ?_ | exact Keeps.dat | exact Keeps.bp rfl | exact Keeps.os rfl | exact Keeps.ep rfl | refine Keeps.fv ?_ | refine Keeps.bm ?_ | exact KeepsAll.nil | refine KeepsAll.cons ?_ ?_) : JE X Γ Ω (Exit.then K Q) .normal := JE.meet hK hΓ hΩ
theorem ml {Γm : Gam} {Ωm : Omg} (a : Act) (w : World) (hs : Sat X Γ Ω a w)
    (hΓ : CV (Ωm.map Prod.fst) Γ Γm := by repeat' first | exact CV.nil | refine CV.cons rfl ?_ ?_ | exact Keeps.dat | exact Keeps.bp rfl | exact Keeps.os rfl | exact Keeps.ep rfl | exact Keeps.nx | refine Keeps.fv ?_ | refine Keeps.bm ?_ | refine Keeps.tup ?_ | refine Keeps.dh ?_ | refine Keeps.when ?_ | exact KeepsAll.nil | refine KeepsAll.cons ?_ ?_ | exact HKeep.nil | refine HKeep.cons ?_ ?_)
    (hΩ : OVK (Ωm.map Prod.fst) Ω Ωm := by repeat' first | exact OVK.nil | refine OVK.cons rfl ?_ ?_ | exact KeepsO.box | exact KeepsO.sl | exact KeepsO.dead | exact KeepsO.bld | exact KeepsO.it | exact KeepsO.mD | refine KeepsO.boxH ?_ | exact HKeep.nil | refine HKeep.cons ?_ ?_ | exact Keeps.dat | exact Keeps.bp rfl | exact Keeps.os rfl | exact Keeps.ep rfl | refine Keeps.fv ?_ | refine Keeps.bm ?_ | exact KeepsAll.nil | refine KeepsAll.cons ?_ ?_) : Sat X Γm Ωm a w := hs.conv hΓ hΩ
/-- The slots and objects that live on. -/
inductive CVP (ks : List Nat) (Γ : Gam) : List Nat → Gam → Prop
  | nil : CVP ks Γ [] []
  | cons {t e ts Γ'} : Γ.lookup t = some e → Keeps ks e → CVP ks Γ ts Γ' → CVP ks Γ (t :: ts) ((t, e) :: Γ')
inductive OVP (ks : List Nat) (Ω : Omg) : List Nat → Omg → Prop
  | nil : OVP ks Ω [] []
  | cons {t e ts Ω'} : Ω.lookup t = some e → KeepsO ks e → OVP ks Ω ts Ω' → OVP ks Ω (t :: ts) ((t, e) :: Ω')
theorem CVP.cv {ks : List Nat} : ∀ {ts : List Nat} {Γ' : Gam}, CVP ks Γ ts Γ' → CV ks Γ Γ'
  | _, _, .nil => .nil
  | _, _, .cons h k t => .cons h k t.cv
theorem OVP.ov {ks : List Nat} : ∀ {ts : List Nat} {Ω' : Omg}, OVP ks Ω ts Ω' → OVK ks Ω Ω' ∧ Ω'.map Prod.fst = ts
  | _, _, .nil => ⟨.nil, rfl⟩
  | _, _, .cons h k t => ⟨.cons h k t.ov.1, by simp [t.ov.2]⟩
theorem jv {Γ' : Gam} {Ω' : Omg} {os : List Oper} (ts is : List Nat) (h : JL X all Γ' Ω' os Q)
    (hΓ : CVP is Γ ts Γ' := by repeat' first | exact CVP.nil | apply CVP.cons | rfl | exact Keeps.dat | exact Keeps.bp rfl | exact Keeps.os rfl | exact Keeps.ep rfl | exact Keeps.nx | refine Keeps.fv ?_ | refine Keeps.bm ?_ | refine Keeps.tup ?_ | refine Keeps.dh ?_ | refine Keeps.when ?_ | exact KeepsAll.nil | refine KeepsAll.cons ?_ ?_ | exact HKeep.nil | refine HKeep.cons ?_ ?_)
    (hΩ : OVP is Ω is Ω' := by repeat' first | exact OVP.nil | apply OVP.cons | rfl | exact KeepsO.box | exact KeepsO.sl | exact KeepsO.dead | exact KeepsO.bld | exact KeepsO.it | exact KeepsO.mD | refine KeepsO.boxH ?_ | exact HKeep.nil | refine HKeep.cons ?_ ?_ | exact Keeps.dat | exact Keeps.bp rfl | exact Keeps.os rfl | exact Keeps.ep rfl | refine Keeps.fv ?_ | refine Keeps.bm ?_ | exact KeepsAll.nil | refine KeepsAll.cons ?_ ?_) : JL X all Γ Ω os Q :=
  JL.conv (Γ' := Γ') (Ω' := Ω') (by rw [hΩ.ov.2]; exact hΓ.cv) (by rw [hΩ.ov.2]; exact hΩ.ov.1) h
/-- Where the value of a slot stands that an operation of a drawn region reads. -/
def srcGo (af : Array Edge) (t : Nat) : List PStep → Nat → Option Ent
  | [], _ => none
  | s :: r, j => match s.wG.lookup t with
    | some e => if edge af j = true then some e else srcGo af t r (j + 1)
    | none => srcGo af t r (j + 1)
def srcG (Γ0 : Gam) (pre : List PStep) (W : List Nat) (af : Array Edge) (t : Nat) : Option Ent := if W.contains t = true then srcGo af t pre 0 else Γ0.lookup t
theorem srcGo_spec {af : Array Edge} {t : Nat} {e : Ent} : ∀ {l : List PStep} {j : Nat}, srcGo af t l j = some e → ∃ i s, l[i]? = some s ∧ s.wG.lookup t = some e ∧ edge af (j + i) = true
  | [], _, h => by simp [srcGo] at h
  | s :: r, j, h => by
    unfold srcGo at h
    have next : srcGo af t r (j + 1) = some e → ∃ i s', (s :: r)[i]? = some s' ∧ s'.wG.lookup t = some e ∧ edge af (j + i) = true := fun h => by
      obtain ⟨i, s', h1, h2, h3⟩ := srcGo_spec h
      exact ⟨i + 1, s', by simpa using h1, h2, by rw [← h3]; congr 1; omega⟩
    split at h
    · rename_i e' he
      split at h
      · rename_i hed
        cases h
        exact ⟨0, s, rfl, he, by simpa using hed⟩
      · exact next h
    · exact next h
theorem RdG.any {Γ0 : Gam} {pre : List PStep} {W : List Nat} {af : Array Edge} {t : Nat} {e : Ent} {r : Gam} (h : srcG Γ0 pre W af t = some e) (k : RdG Γ0 pre W af r) : RdG Γ0 pre W af ((t, e) :: r) := by
  unfold srcG at h
  split at h
  · obtain ⟨i, s, h1, h2, h3⟩ := srcGo_spec h
    exact .new i h1 h2 (by simpa using h3) k
  · rename_i hW
    exact .old (by simpa using hW) h k
def srcOo (pre : List PStep) (ops : List Oper) (n : Nat) (af : Array Edge) (t : Nat) : List PStep → Nat → Option OEnt
  | [], _ => none
  | s :: r, j => match s.wO.lookup t with
    | some e => if (edge af j && quiet pre ops t n (j + 1)) = true then some e else srcOo pre ops n af t r (j + 1)
    | none => srcOo pre ops n af t r (j + 1)
def srcO (Ω0 : Omg) (pre : List PStep) (ops : List Oper) (n : Nat) (af : Array Edge) (t : Nat) : Option OEnt := if quiet pre ops t n 0 = true then Ω0.lookup t else srcOo pre ops n af t pre 0
theorem srcOo_spec {pre : List PStep} {ops : List Oper} {n : Nat} {af : Array Edge} {t : Nat} {e : OEnt} : ∀ {l : List PStep} {j : Nat}, srcOo pre ops n af t l j = some e → ∃ i s, l[i]? = some s ∧ s.wO.lookup t = some e ∧ edge af (j + i) = true ∧ quiet pre ops t n (j + i + 1) = true
  | [], _, h => by simp [srcOo] at h
  | s :: r, j, h => by
    unfold srcOo at h
    have next : srcOo pre ops n af t r (j + 1) = some e → ∃ i s', (s :: r)[i]? = some s' ∧ s'.wO.lookup t = some e ∧ edge af (j + i) = true ∧ quiet pre ops t n (j + i + 1) = true := fun h => by
      obtain ⟨i, s', h1, h2, h3, h4⟩ := srcOo_spec h
      exact ⟨i + 1, s', by simpa using h1, h2, by rw [← h3]; congr 1; omega, by rw [← h4]; congr 1; omega⟩
    split at h
    · rename_i e' he
      split at h
      · rename_i hed
        cases h
        simp only [Bool.and_eq_true] at hed
        exact ⟨0, s, rfl, he, by simpa using hed.1, by simpa using hed.2⟩
      · exact next h
    · exact next h
theorem RdO.any {Ω0 : Omg} {pre : List PStep} {ops : List Oper} {n : Nat} {af : Array Edge} {t : Nat} {e : OEnt} {r : Omg} (h : srcO Ω0 pre ops n af t = some e) (k : RdO Ω0 pre ops n af r) : RdO Ω0 pre ops n af ((t, e) :: r) := by
  unfold srcO at h
  split at h
  · rename_i hq
    exact .old hq h k
  · obtain ⟨i, s, h1, h2, h3, h4⟩ := srcOo_spec h
    exact .new i h1 h2 (by simpa using h3) (by simpa using h4) k
theorem cd {id : Nat} {ops : List Oper} (W : List Nat) (hmix : X.P.follows .mixedOrders = true) (pre : List PStep) (hall : Alls X ops.toArray pre ops) (k : JL X ops.toArray (finG pre Γ) (finO pre Ω) (ops.drop pre.length) Q)
    (hchk : chk ops pre.length = true := by kernel_rfl) (hplen : Nat.ble pre.length ops.length = true := by rfl) (hW : keysG pre = W := by rfl) (dW : distinct W = true := by rfl) (hch : chain pre ops = true := by kernel_rfl)
    (hrd : Rds Γ Ω pre W ops 0 pre ops := by repeat' first | exact Rds.nil | refine Rds.cons ?_ ?_ rfl ?_ | exact RdG.nil | refine RdG.any rfl ?_ | exact RdO.nil | refine RdO.any rfl ?_) : JC X Γ Ω (.region id ops.toArray true) Q :=
  JC.draw W hmix pre hchk hplen hall hW dW hch hrd rfl rfl rfl k
theorem al {s : PStep} {ps : List PStep} {o : Oper} {os : List Oper} (h : ∀ Γ Ω, AG Γ s.rG → AO Ω s.rO → AF Ω s.fr → GS X all Γ Ω o (s.wG ++ Γ) (s.wO ++ Ω)) (t : Alls X all ps os) : Alls X all (s :: ps) (o :: os) := .cons h t
theorem an {os : List Oper} : Alls X all [] os := .nil
theorem PI {B : World → Prop} {P : Program} {f : Nat} {fn : Func} {c : Code} {ins : List Ent} {out : Ent} {n : Nat} {Γ0 : Gam} (hf : P.funcs[f]? = some fn)
    (h : ∀ w U, JC ⟨P, fn, n, w, U, fun _ => False, B, []⟩ Γ0 [] c (bodyPost P fn (RetP out w U))) (hb : fn.body = some c := by rfl) (hn : fn.ntmps = n := by rfl) (hl : Nat.ble ins.length n = true := by rfl) (hΓ : enterΓ ins = Γ0 := by rfl) : PCon B P f ins out :=
  PCon.intro hf hb hn hl hΓ h
theorem SI {B : World → Prop} {P : Program} {f : Nat} {fn : Func} {c : Code} {ins : List Ent} {Ωi Ωo : Omg} {out : Ent} {n : Nat} {Γ0 : Gam} (hf : P.funcs[f]? = some fn) (Ω0 : (Nat → Option Value) → Omg) (hp : ∀ gs, Pin gs Ωi (Ω0 gs))
    (h : ∀ w U gs own, KeysIn gs Ωi → JC ⟨P, fn, n, w, U, fun b => (own b).isSome = true, B, []⟩ Γ0 (Ω0 gs) c (bodyPost P fn (RetS Ωo out w U gs own))) (hb : fn.body = some c := by rfl) (hn : fn.ntmps = n := by rfl) (hl : Nat.ble ins.length n = true := by rfl) (hΓ : enterΓ ins = Γ0 := by rfl) : SCon B P f Ωi ins Ωo out :=
  SCon.intro hf hb Ω0 hn hl hΓ hp h
end
end Go.Trw
