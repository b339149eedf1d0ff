/- Own work: functions that defer one call of a literal that has captured one variable. -/
import Derived.Test.YthdcblpadgdamaaGreatDoorTrwObj
import Derived.Defers
set_option linter.all false
namespace Go.Trw
open Go
/-- The deferred call. -/
def dcall (f : Nat) (v : Value) : Deferred := { target := .fn (.func f) #[v], args := #[] }
def IsDf (f : Nat) (dv : Deferred) (v : Value) : Prop := dv = dcall f v
/-- The entry of a function that defers. -/
theorem SCon.introD {B : World → Prop} {P : Program} {f : Nat} {fn : Func} {c : Code} {ins : List Ent} {Ωi Ωo : Omg} {out : Ent} (hf : P.funcs[f]? = some fn) (hb : fn.body = some c) {n : Nat} {Γ0 : Gam} (Ω0 : (Nat → Option Value) → Omg) (hn : fn.ntmps = n) (hl : Nat.ble ins.length n = true) (hΓ : enterΓ ins = Γ0)
    (hp : ∀ gs, Pin gs Ωi (Ω0 gs))
    (h : ∀ w O gs own, KeysIn gs Ωi → JC ⟨P, fn, n, w, O, fun b => (own b).isSome = true, B, []⟩ Γ0 (Ω0 gs) c (bodyPostD P fn (RetS Ωo out w O gs own))) : SCon B P f Ωi ins Ωo out := by
  subst hn hΓ
  intro w O gs own args hh hglob hargs
  refine calls_of_wp_defers hf hb (h w O gs own hh.keys _ _ ⟨gs, own, ?_⟩)
  have hlen := hargs.length
  have hle : ins.length ≤ fn.ntmps := by simpa [Nat.ble_eq] using hl
  exact {
    size := by simp; omega
    defers := rfl
    glob := hglob
    fut := Fut.refl _ _
    olt := hh.olt
    ownok := fun b i hb => ⟨(hh.ownok b i hb).1, (hh.ownok b i hb).2, .inl (by show (own b).isSome = true; rw [hb]; rfl)⟩
    keys := fun i hi k => hh.keys i hi ((hp gs).none.2 k)
    okeys := fun b i hb k => hh.okeys b i hb ((hp gs).none.2 k)
    obj := fun i e' hi => by
      obtain ⟨e, h1, h2⟩ := (hp gs).fwd hi
      obtain ⟨v, h3, h4⟩ := hh.obj i e h1
      exact ⟨v, h3, h2 _ _ _ _ _ h3 h4⟩
    ent := fun t e ht => by
      obtain ⟨_, h1⟩ := enter_lookup ins 0 t e ht
      obtain ⟨v, h2, h3⟩ := hargs.get h1
      have hlt : t < args.length := by
        rcases Nat.lt_or_ge t args.length with k | k
        · exact k
        · simp [List.getElem?_eq_none k] at h2
      have e1 : ((args.toArray ++ Array.replicate (fn.ntmps - args.toArray.size) undef).getD t undef) = v := by
        have hlt2 : t < (args.toArray ++ Array.replicate (fn.ntmps - args.toArray.size) undef).size := by simp; omega
        rw [Array.getD, dif_pos hlt2]
        simp only [Array.getInternal_eq_getElem]
        rw [Array.getElem_append_left (by simpa using hlt)]
        simpa [List.getElem?_eq_getElem hlt] using h2
      simp only [e1]
      exact h3 }
section
variable {P : Program} {fn : Func} {n : Nat} {w0 : World} {O E : Nat → Prop} {B : World → Prop} {Γ : Gam} {Ω : Omg} {α : Type} {R : RT α} {d d' : α} {i f T ty : Nat} {x : Operand} {tys : Array Nat} {pos : String} {af : Array Edge} {all : Array Oper} {os : List Oper} {Q : Exit → Act → World → Prop}
theorem run_defer {X : Ctx} {a : Act} {w : World} {v : Value} (h : a.eval x = .func (.func f) #[] #[v]) : (execOp a.eval ⟨none, .defer ⟨.value x, #[], tys⟩, ty, pos, af, none⟩).run X.P w = .ok (.defer (dcall f v)) w := by
  simp only [execOp, resolve, h, Deferred.ofValue, run_bind, run_pure, List.map_toArray, List.map_nil]
  rfl
/-- A call is deferred. -/
theorem JL.deferS (hx : Opd Γ x (FV f [BP i 0])) (hi : Ω.lookup i = some (BoxAt Any R T d))
    (k : ∀ dv, JL ⟨P, fn, n, w0, O, E, B, [dv]⟩ all Γ ((i, BoxAt (IsDf f dv) R T d) :: Ω) os Q) :
    JL ⟨P, fn, n, w0, O, E, B, []⟩ all Γ Ω (⟨none, .defer ⟨.value x, #[], tys⟩, ty, pos, af, none⟩ :: os) Q := by
  rintro a w ⟨gs, own, hs⟩
  obtain ⟨vs, h1, h2⟩ := hx.sat hs
  cases h2 with
  | cons hb t =>
    cases t
    obtain ⟨b, k1, rfl⟩ := hb
    simp only [wpList]
    rw [if_pos (by simp [Region.wanted])]
    unfold Oper.wp
    rw [run_defer (X := ⟨P, fn, n, w0, O, E, B, []⟩) h1, Oper.upon_defer]
    obtain ⟨v, hv, b', cs, e1, e0, e2, e3, e4⟩ := hs.obj i _ hi
    rw [k1] at hv
    simp only [Option.some.injEq] at hv
    subst hv
    refine k (dcall f (.pointer (some ⟨b, 0, none⟩))) _ w ⟨gs, own, ?_⟩
    have h3 := hs.recast (i := i) (e := BoxAt Any R T d) (e' := BoxAt (IsDf f (dcall f (.pointer (some ⟨b, 0, none⟩)))) R T d) hi (fun v hv ⟨b2, cs2, q1, q0, q2⟩ => ⟨b2, cs2, q1, by
      rw [k1] at hv
      simp only [Option.some.injEq] at hv
      subst hv; rfl, q2⟩)
    exact {
      size := h3.size
      defers := by show _ :: a.defers = _; rw [show a.defers = [] from hs.defers]
      glob := h3.glob
      fut := h3.fut
      olt := h3.olt
      ownok := h3.ownok
      keys := h3.keys
      okeys := h3.okeys
      obj := h3.obj
      ent := h3.ent }
theorem invoke_lit {P : Program} {w : World} {v : Value} (he : Enters P f) : (invoke (.fn (.func f) #[v]) #[]).run P w = .ok (.enter f #[v]) w := by
  have : invoke (.fn (.func f) #[v]) #[] = callFunc f (#[] ++ #[v]) := rfl
  rw [this, he]; rfl
/-- The return of a function that has deferred one call. -/
theorem JE.retSD {w : World} {gs0 : Nat → Option Value} {own0 : Nat → Option Nat} {Ωi Ωo : Omg} {dv : Deferred} {r1 r2 : ResultVar} {e1 e2 : Ent} (hk : KeysIn gs0 Ωi) (hi : Ω.lookup i = some (BoxAt (IsDf f dv) R T d)) (hc : SWp B P f [(0, Box R T d)] [BP 0 0] [(0, Box R T d')] (TUP [])) (he : Enters P f)
    (hp : PinI gs0 ((i, BoxAt (IsDf f dv) R T d') :: Ω) Ωi) (hΩ : OutO ((i, BoxAt (IsDf f dv) R T d') :: Ω) Ωo) (hr : fn.results = #[r1, r2]) (h1 : RvS P Γ ((i, BoxAt (IsDf f dv) R T d') :: Ω) r1 e1) (h2 : RvS P Γ ((i, BoxAt (IsDf f dv) R T d') :: Ω) r2 e2) :
    JE ⟨P, fn, n, w, O, fun b => (own0 b).isSome = true, B, [dv]⟩ Γ Ω (bodyPostD P fn (RetS Ωo (TUP [e1, e2]) w O gs0 own0)) .ret := by
  rintro a w' ⟨gs, own, hs⟩
  show Leaves P fn a.tmps _ a.defers .returning w'
  rw [show a.defers = [dv] from hs.defers]
  obtain ⟨v, hv, b, cs, q1, q0, q2, q3, q4⟩ := hs.obj i _ hi
  have hdv : dv = dcall f v := q0
  subst hdv
  have hp1 : Pass Ω [(0, i)] [(0, Box R T d)] [(0, Box R T d')] [(i, BoxAt (IsDf f (dcall f v)) R T d')] := .box hi .nil
  obtain ⟨hS, hh⟩ := callS_hand (ins := []) hs hp1 (by simp) (by simp)
  obtain ⟨fn1, c1, hf1, hb1, hwp⟩ := hc
  refine leaves_cons (by simp) (invoke_lit he) ?_
  have hargs : Sems (gsOf [(0, i)] gs) (SO (fun b => (Ctx.S ⟨P, fn, n, w, O, fun b => (own0 b).isSome = true, B, [dcall f v]⟩ own) b ∧ ownOf [(0, i)] own b = none) (ownOf [(0, i)] own)) w' [BP 0 0] [v] := by
    refine .cons ⟨b, ?_, q1⟩ .nil
    simp [gsOf, lookup_cons, hv, q1]
  refine (callsD_of_wp (args := #[v]) hf1 hb1 (hwp w' _ _ _ [v] hh (by rw [hS]; exact hs.glob) hargs)).mono ?_
  rintro e u' w'' ⟨rfl, hret⟩
  obtain ⟨v2, gs2, ow2, rfl, k1, _⟩ := callS_behind (out' := TUP []) hs hp1 (by simp) (by simp) (RenB.tup .nil) hret
  obtain ⟨hd, v3, hr3, hR⟩ := JE.retSB (B := B) (w := w) (O := O) (n := n) (own0 := own0) hk hp hΩ hr h1 h2 { a with defers := [] } w'' ⟨gs2, ow2, {
    size := k1.size
    defers := rfl
    glob := k1.glob
    fut := k1.fut
    olt := k1.olt
    ownok := k1.ownok
    keys := k1.keys
    okeys := k1.okeys
    obj := k1.obj
    ent := k1.ent }⟩
  exact ⟨v3, hr3, hR⟩
end
end Go.Trw
