/- Own work: functions that turn the variables that are handed to them: contracts, entry, return, calls; ids renamed. -/
import Derived.Test.YthdcblpadgdamaaGreatDoorTrwOwn
set_option linter.all false
namespace Go.Trw
open Go
def SO (O : Nat → Prop) (own : Nat → Option Nat) : Nat → Prop := fun b => O b ∨ (own b).isSome = true
/-- What is handed over. -/
structure Hand (w : World) (O : Nat → Prop) (gs : Nat → Option Value) (own : Nat → Option Nat) (Ω : Omg) : Prop where
  olt : ∀ b, O b → b < w.heap.size
  ownok : ∀ b i, own b = some i → b < w.heap.size ∧ ¬ O b
  keys : ∀ i, gs i ≠ none → Ω.lookup i ≠ none
  okeys : ∀ b i, own b = some i → Ω.lookup i ≠ none
  obj : ∀ i e, Ω.lookup i = some e → ∃ v, gs i = some v ∧ e.holds gs v (fun b => own b = some i) (SO O own) w
/-- What comes back. -/
def RetS (Ωo : Omg) (out : Ent) (w : World) (O : Nat → Prop) (gs : Nat → Option Value) (own : Nat → Option Nat) : Ending → World → Prop := fun e w' =>
  ∃ v own' gs', e = .returned v ∧ Fut (fun b => (own b).isSome = true) w w' ∧ (∀ i x, gs i = some x → gs' i = some x) ∧
    (∀ b i, own' b = some i → b < w'.heap.size ∧ ¬ O b ∧ ((own b).isSome = true ∨ w.heap.size ≤ b)) ∧
    (∀ b i, own' b = some i → Ωo.lookup i ≠ none) ∧
    (∀ i e, Ωo.lookup i = some e → ∃ x, gs' i = some x ∧ e.holds gs' x (fun b => own' b = some i) (SO O own') w') ∧
    out.sem gs' (SO O own') w' v
/-- A contract of a function that turns what it is handed. -/
def SCon (B : World → Prop) (P : Program) (f : Nat) (Ωi : Omg) (ins : List Ent) (Ωo : Omg) (out : Ent) : Prop :=
  ∀ (w : World) (O : Nat → Prop) (gs : Nat → Option Value) (own : Nat → Option Nat) (args : List Value), Hand w O gs own Ωi → GLOB B (SO O own) w → Sems gs (SO O own) w ins args →
    Calls P f args.toArray w (RetS Ωo out w O gs own)
/-- .. told of its body, so that it serves for a deferred call, too. -/
def SWp (B : World → Prop) (P : Program) (f : Nat) (Ωi : Omg) (ins : List Ent) (Ωo : Omg) (out : Ent) : Prop :=
  ∃ fn c, P.funcs[f]? = some fn ∧ fn.body = some c ∧ ∀ (w : World) (O : Nat → Prop) (gs : Nat → Option Value) (own : Nat → Option Nat) (args : List Value), Hand w O gs own Ωi → GLOB B (SO O own) w → Sems gs (SO O own) w ins args →
    c.wp P (bodyPost P fn (RetS Ωo out w O gs own)) { tmps := args.toArray ++ Array.replicate (fn.ntmps - args.toArray.size) undef, defers := [] } w
def IsV (v0 : Option Value) (v : Value) : Prop := v0 = some v
/-- The same objects, their pointers known. -/
inductive Pin (gs : Nat → Option Value) : Omg → Omg → Prop
  | nil : Pin gs [] []
  | cons {i : Nat} {e e' : OEnt} {Ω Ω' : Omg} : (∀ g v B S w, gs i = some v → e.holds g v B S w → e'.holds g v B S w) → (∀ g v B S w, e'.holds g v B S w → gs i = some v ∧ e.holds g v B S w) → Pin gs Ω Ω' → Pin gs ((i, e) :: Ω) ((i, e') :: Ω')
theorem Pin.box {gs : Nat → Option Value} {i T : Nat} {α : Type} {R : RT α} {d : α} {Ω Ω' : Omg} (h : Pin gs Ω Ω') : Pin gs ((i, Box R T d) :: Ω) ((i, BoxAt (IsV (gs i)) R T d) :: Ω') :=
  .cons (fun g v B S w hg ⟨b, cs, h1, h0, h2⟩ => ⟨b, cs, h1, hg, h2⟩) (fun g v B S w ⟨b, cs, h1, h0, h2⟩ => ⟨h0, b, cs, h1, trivial, h2⟩) h
theorem Pin.fwd {gs : Nat → Option Value} : ∀ {Ω Ω' : Omg} {i : Nat} {e' : OEnt}, Pin gs Ω Ω' → Ω'.lookup i = some e' → ∃ e, Ω.lookup i = some e ∧ (∀ g v B S w, gs i = some v → e.holds g v B S w → e'.holds g v B S w)
  | _, _, _, _, .nil, h => by simp at h
  | _, _, j, e', .cons (i := i) h1 h2 h3, h => by
    rw [lookup_cons] at h ⊢
    by_cases hj : j = i
    · subst hj; simp only [if_true, Option.some.injEq] at h; subst h; exact ⟨_, by simp, h1⟩
    · rw [if_neg hj] at h ⊢; exact h3.fwd h
theorem Pin.bwd {gs : Nat → Option Value} : ∀ {Ω Ω' : Omg} {i : Nat} {e : OEnt}, Pin gs Ω Ω' → Ω.lookup i = some e → ∃ e', Ω'.lookup i = some e' ∧ (∀ g v B S w, e'.holds g v B S w → gs i = some v ∧ e.holds g v B S w)
  | _, _, _, _, .nil, h => by simp at h
  | _, _, j, e', .cons (i := i) h1 h2 h3, h => by
    rw [lookup_cons] at h ⊢
    by_cases hj : j = i
    · subst hj; simp only [if_true, Option.some.injEq] at h; subst h; exact ⟨_, by simp, h2⟩
    · rw [if_neg hj] at h ⊢; exact h3.bwd h
theorem Pin.none {gs : Nat → Option Value} : ∀ {Ω Ω' : Omg} {i : Nat}, Pin gs Ω Ω' → (Ω.lookup i = none ↔ Ω'.lookup i = none)
  | _, _, _, .nil => by simp
  | _, _, j, .cons (i := i) h1 h2 h3 => by
    rw [lookup_cons, lookup_cons]
    by_cases hj : j = i
    · subst hj; simp
    · rw [if_neg hj, if_neg hj]; exact h3.none
def KeysIn (gs : Nat → Option Value) (Ω : Omg) : Prop := ∀ i, gs i ≠ none → Ω.lookup i ≠ none
theorem SWp.intro {B : World → Prop} {P : Program} {f : Nat} {fn : Func} {c : Code} {ins : List Ent} {Ωi Ωo : Omg} {out : Ent} (hf : P.funcs[f]? = some fn) (hb : fn.body = some c) {n : Nat} {Γ0 : Gam} (Ω0 : (Nat → Option Value) → Omg) (hn : fn.ntmps = n) (hl : Nat.ble ins.length n = true) (hΓ : enterΓ ins = Γ0)
    (hp : ∀ gs, Pin gs Ωi (Ω0 gs))
    (h : ∀ w O gs own, KeysIn gs Ωi → JC ⟨P, fn, n, w, O, fun b => (own b).isSome = true, B, []⟩ Γ0 (Ω0 gs) c (bodyPost P fn (RetS Ωo out w O gs own))) : SWp B P f Ωi ins Ωo out := by
  subst hn hΓ
  refine ⟨fn, c, hf, hb, fun w O gs own args hh hglob hargs => h w O gs own hh.keys _ _ ⟨gs, own, ?_⟩⟩
  have hlen := hargs.length
  have hle : ins.length ≤ fn.ntmps := by simpa [Nat.ble_eq] using hl
  exact {
    size := by simp; omega
    defers := rfl
    glob := hglob
    fut := Fut.refl _ _
    olt := hh.olt
    ownok := fun b i hb => ⟨(hh.ownok b i hb).1, (hh.ownok b i hb).2, .inl (by show (own b).isSome = true; rw [hb]; rfl)⟩
    keys := fun i hi k => hh.keys i hi ((hp gs).none.2 k)
    okeys := fun b i hb k => hh.okeys b i hb ((hp gs).none.2 k)
    obj := fun i e' hi => by
      obtain ⟨e, h1, h2⟩ := (hp gs).fwd hi
      obtain ⟨v, h3, h4⟩ := hh.obj i e h1
      exact ⟨v, h3, h2 _ _ _ _ _ h3 h4⟩
    ent := fun t e ht => by
      obtain ⟨_, h1⟩ := enter_lookup ins 0 t e ht
      obtain ⟨v, h2, h3⟩ := hargs.get h1
      have hlt : t < args.length := by
        rcases Nat.lt_or_ge t args.length with k | k
        · exact k
        · simp [List.getElem?_eq_none k] at h2
      have e1 : ((args.toArray ++ Array.replicate (fn.ntmps - args.toArray.size) undef).getD t undef) = v := by
        have hlt2 : t < (args.toArray ++ Array.replicate (fn.ntmps - args.toArray.size) undef).size := by simp; omega
        rw [Array.getD, dif_pos hlt2]
        simp only [Array.getInternal_eq_getElem]
        rw [Array.getElem_append_left (by simpa using hlt)]
        simpa [List.getElem?_eq_getElem hlt] using h2
      simp only [e1]
      exact h3 }
theorem SWp.con {B : World → Prop} {P : Program} {f : Nat} {ins : List Ent} {Ωi Ωo : Omg} {out : Ent} (h : SWp B P f Ωi ins Ωo out) : SCon B P f Ωi ins Ωo out := by
  obtain ⟨fn, c, hf, hb, h⟩ := h
  intro w O gs own args hh hglob hargs
  exact calls_of_wp hf hb (h w O gs own args hh hglob hargs)
theorem SCon.intro {B : World → Prop} {P : Program} {f : Nat} {fn : Func} {c : Code} {ins : List Ent} {Ωi Ωo : Omg} {out : Ent} (hf : P.funcs[f]? = some fn) (hb : fn.body = some c) {n : Nat} {Γ0 : Gam} (Ω0 : (Nat → Option Value) → Omg) (hn : fn.ntmps = n) (hl : Nat.ble ins.length n = true) (hΓ : enterΓ ins = Γ0)
    (hp : ∀ gs, Pin gs Ωi (Ω0 gs))
    (h : ∀ w O gs own, KeysIn gs Ωi → JC ⟨P, fn, n, w, O, fun b => (own b).isSome = true, B, []⟩ Γ0 (Ω0 gs) c (bodyPost P fn (RetS Ωo out w O gs own))) : SCon B P f Ωi ins Ωo out :=
  (SWp.intro hf hb Ω0 hn hl hΓ hp h).con
/-! ### Return -/
section
variable {X : Ctx} {Γ : Gam} {Ω : Omg}
def RvS (P : Program) (Γ : Gam) (Ω : Omg) (r : ResultVar) (e : Ent) : Prop :=
  ∀ (X : Ctx) (a : Act) (w : World) gs own, X.P = P → SatD X Γ Ω a w gs own → ∃ v, (match r with | .tmp t => (pure (a.tmps.getD t undef) : Sem Value) | .cell t T => (do loadVar T (← asAddr (a.tmps.getD t undef)))).run P w = .ok v w ∧ e.sem gs (X.S own) w v
theorem RvS.tmp {P : Program} {t : Nat} {α : Type} {R : RT α} {d : α} (h : Γ.lookup t = some (D R d)) : RvS P Γ Ω (.tmp t) (D R d) :=
  fun X a w gs own hP hs => ⟨_, rfl, hs.ent t _ h⟩
theorem RvS.os {P : Program} {t i : Nat} (h : Γ.lookup t = some (OS i)) : RvS P Γ Ω (.tmp t) (OS i) :=
  fun X a w gs own hP hs => ⟨_, rfl, hs.ent t _ h⟩
theorem RvS.cell {P : Program} {t i T T0 : Nat} {α : Type} {R : RT α} {d : α} (h : Γ.lookup t = some (BP i 0)) {φ : Value → Prop} (hi : Ω.lookup i = some (BoxAt φ R T0 d)) (hT : TyOK P T R) : RvS P Γ Ω (.cell t T) (D R d) :=
  fun X a w gs own hP hs => by
    obtain ⟨b, h1, h2⟩ := hs.ent t _ h
    obtain ⟨v, hv, b', cs, e1, e0, e2, e3, e4⟩ := hs.obj i _ hi
    rw [h1] at hv
    simp only [Option.some.injEq] at hv
    subst hv
    simp only [Value.pointer.injEq, Option.some.injEq, Addr.mk.injEq] at e1
    obtain ⟨rfl, _⟩ := e1
    have hc := CellsAt.of_block e3
    refine ⟨_, ?_, RT.val_of e4⟩
    simp only [h2, run_bind, asAddr, run_pure, run_loadVar hT e4 hc]
/-- The objects that were handed over are those, still. -/
inductive PinI (gs0 : Nat → Option Value) (Ω : Omg) : Omg → Prop
  | nil : PinI gs0 Ω []
  | cons {i : Nat} {e e' : OEnt} {Ωi : Omg} : Ω.lookup i = some e' → (∀ g v B S w, e'.holds g v B S w → gs0 i = some v) → PinI gs0 Ω Ωi → PinI gs0 Ω ((i, e) :: Ωi)
theorem PinI.box {gs0 : Nat → Option Value} {Ω : Omg} {i T : Nat} {α : Type} {R : RT α} {d : α} {e : OEnt} {Ωi : Omg} (h : Ω.lookup i = some (BoxAt (IsV (gs0 i)) R T d)) (k : PinI gs0 Ω Ωi) : PinI gs0 Ω ((i, e) :: Ωi) :=
  .cons h (fun _ _ _ _ _ ⟨_, _, _, h0, _⟩ => h0) k
theorem PinI.get {gs0 : Nat → Option Value} {Ω : Omg} : ∀ {Ωi : Omg} {i : Nat}, PinI gs0 Ω Ωi → Ωi.lookup i ≠ none → ∃ e', Ω.lookup i = some e' ∧ (∀ g v B S w, e'.holds g v B S w → gs0 i = some v)
  | _, _, .nil, h => by simp at h
  | _, j, .cons (i := i) h1 h2 h3, h => by
    rw [lookup_cons] at h
    by_cases hj : j = i
    · subst hj; exact ⟨_, h1, h2⟩
    · rw [if_neg hj] at h; exact h3.get h
/-- The objects that come back. -/
inductive OutO (Ω : Omg) : Omg → Prop
  | nil : OutO Ω []
  | cons {i : Nat} {e e' : OEnt} {Ωo : Omg} : Ω.lookup i = some e' → (∀ g v B S w, e'.holds g v B S w → e.holds g v B S w) → OutO Ω Ωo → OutO Ω ((i, e) :: Ωo)
theorem OutO.box {Ω : Omg} {i T : Nat} {α : Type} {φ : Value → Prop} {R : RT α} {d : α} {Ωo : Omg} (h : Ω.lookup i = some (BoxAt φ R T d)) (k : OutO Ω Ωo) : OutO Ω ((i, Box R T d) :: Ωo) :=
  .cons h (fun _ _ _ _ _ ⟨b, cs, h1, h0, h2⟩ => ⟨b, cs, h1, trivial, h2⟩) k
theorem OutO.same {Ω : Omg} {i : Nat} {e : OEnt} {Ωo : Omg} (h : Ω.lookup i = some e) (k : OutO Ω Ωo) : OutO Ω ((i, e) :: Ωo) :=
  .cons h (fun _ _ _ _ _ h => h) k
theorem OutO.get {Ω : Omg} : ∀ {Ωo : Omg} {i : Nat} {e : OEnt}, OutO Ω Ωo → Ωo.lookup i = some e → ∃ e', Ω.lookup i = some e' ∧ (∀ g v B S w, e'.holds g v B S w → e.holds g v B S w)
  | _, _, _, .nil, h => by simp at h
  | _, j, e, .cons (i := i) h1 h2 h3, h => by
    rw [lookup_cons] at h
    by_cases hj : j = i
    · subst hj; simp only [if_true, Option.some.injEq] at h; subst h; exact ⟨_, h1, h2⟩
    · rw [if_neg hj] at h; exact h3.get h
theorem JE.retS_of {B : World → Prop} {out : Ent} {w : World} {O : Nat → Prop} {P : Program} {fn : Func} {n : Nat} {gs0 : Nat → Option Value} {own0 : Nat → Option Nat} {Ωi Ωo : Omg} (hk : KeysIn gs0 Ωi) (hp : PinI gs0 Ω Ωi) (hΩ : OutO Ω Ωo)
    (h : ∀ a w' gs own, SatD ⟨P, fn, n, w, O, fun b => (own0 b).isSome = true, B, []⟩ Γ Ω a w' gs own → ∃ v, (results fn a.tmps).run P w' = .ok v w' ∧ out.sem gs (SO O own) w' v) :
    JE ⟨P, fn, n, w, O, fun b => (own0 b).isSome = true, B, []⟩ Γ Ω (bodyPost P fn (RetS Ωo out w O gs0 own0)) .ret := by
  rintro a w' ⟨gs, own, hs⟩
  obtain ⟨v, h1, h2⟩ := h a w' gs own hs
  have hL : ∀ own' : Nat → Option Nat, (∀ b i, own' b = some i → own b = some i) → Later (SO O own) w' (SO O own') w' := fun own' ho => Later.less_of fun b _ hb => by
    rcases hb with hb | hb
    · exact .inl hb
    · right
      cases hob : own' b with
      | none => rw [hob] at hb; cases hb
      | some i => rw [ho b i hob]; rfl
  have hown : ∀ b i, (match own b with | some i => if (Ωo.lookup i).isSome then some i else none | none => none) = some i ↔ own b = some i ∧ (Ωo.lookup i).isSome = true := by
    intro b i
    cases ho : own b with
    | none => simp
    | some j =>
      simp only
      constructor
      · intro h; split at h
        · rename_i hc; simp only [Option.some.injEq] at h; subst h; exact ⟨rfl, hc⟩
        · cases h
      · rintro ⟨h1, h2⟩; simp only [Option.some.injEq] at h1; subst h1; rw [if_pos h2]
  refine ⟨hs.defers, v, h1, v, (fun b => match own b with | some i => if (Ωo.lookup i).isSome then some i else none | none => none), gs, rfl, hs.fut, ?_, ?_, ?_, ?_, ?_⟩
  · intro i x hx
    obtain ⟨e', k1, k2⟩ := hp.get (hk i (by rw [hx]; simp))
    obtain ⟨y, k3, k4⟩ := hs.obj i e' k1
    have := k2 _ _ _ _ _ k4
    rw [hx] at this
    rw [k3, ← this]
  · intro b i hb
    obtain ⟨k1, k2, k3⟩ := hs.ownok b i ((hown b i).1 hb).1
    exact ⟨k1, k2, k3⟩
  · intro b i hb
    have := ((hown b i).1 hb).2
    intro k; rw [k] at this; cases this
  · intro i e hi
    obtain ⟨e', k1, k2⟩ := hΩ.get hi
    obtain ⟨x, k3, k4⟩ := hs.obj i e' k1
    refine ⟨x, k3, ?_⟩
    have hB : (fun b => (match own b with | some i => if (Ωo.lookup i).isSome then some i else none | none => none) = some i) = (fun b => own b = some i) := by
      funext b
      rw [eq_iff_iff, hown b i]
      exact ⟨fun h => h.1, fun h => ⟨h, by rw [hi]; rfl⟩⟩
    rw [hB]
    exact e.stable (fun _ _ k => k) (k2 _ _ _ _ _ k4) (fun _ _ => rfl) (hL _ fun b i hb => ((hown b i).1 hb).1)
  · exact out.mono (fun i x hi => hi) (hL _ fun b i hb => ((hown b i).1 hb).1) h2
section
variable {B : World → Prop} {w : World} {O : Nat → Prop} {P : Program} {fn : Func} {n : Nat} {gs0 : Nat → Option Value} {own0 : Nat → Option Nat} {Ωi Ωo : Omg} (hk : KeysIn gs0 Ωi) (hp : PinI gs0 Ω Ωi) (hΩ : OutO Ω Ωo)
include hk hp hΩ
theorem JE.retS0 (hr : fn.results = #[]) :
    JE ⟨P, fn, n, w, O, fun b => (own0 b).isSome = true, B, []⟩ Γ Ω (bodyPost P fn (RetS Ωo (TUP []) w O gs0 own0)) .ret :=
  JE.retS_of hk hp hΩ fun a w' gs own hs => ⟨.tuple #[], by unfold results; rw [hr]; simp [run_bind, run_pure], [], rfl, .nil⟩
theorem JE.retSA {r1 : ResultVar} {e1 : Ent} (hr : fn.results = #[r1]) (h1 : RvS P Γ Ω r1 e1) :
    JE ⟨P, fn, n, w, O, fun b => (own0 b).isSome = true, B, []⟩ Γ Ω (bodyPost P fn (RetS Ωo e1 w O gs0 own0)) .ret :=
  JE.retS_of hk hp hΩ fun a w' gs own hs => by
    obtain ⟨v, hv, he⟩ := h1 _ _ _ _ _ rfl hs
    refine ⟨v, ?_, he⟩
    unfold results; rw [hr]
    simp only [List.mapM_toArray, List.mapM_cons, List.mapM_nil, run_bind, run_map]
    cases r1 <;> simp_all [run_pure, run_bind]
theorem JE.retSB {r1 r2 : ResultVar} {e1 e2 : Ent} (hr : fn.results = #[r1, r2]) (h1 : RvS P Γ Ω r1 e1) (h2 : RvS P Γ Ω r2 e2) :
    JE ⟨P, fn, n, w, O, fun b => (own0 b).isSome = true, B, []⟩ Γ Ω (bodyPost P fn (RetS Ωo (TUP [e1, e2]) w O gs0 own0)) .ret :=
  JE.retS_of hk hp hΩ fun a w' gs own hs => by
    obtain ⟨v1, hv1, he1⟩ := h1 _ _ _ _ _ rfl hs
    obtain ⟨v2, hv2, he2⟩ := h2 _ _ _ _ _ rfl hs
    refine ⟨.tuple #[v1, v2], ?_, [_, _], rfl, .cons he1 (.cons he2 .nil)⟩
    unfold results; rw [hr]
    simp only [List.mapM_toArray, List.mapM_cons, List.mapM_nil, run_bind, run_map]
    cases r1 <;> cases r2 <;> simp_all [run_pure, run_bind]
theorem JE.retSC {r1 r2 r3 : ResultVar} {e1 e2 e3 : Ent} (hr : fn.results = #[r1, r2, r3]) (h1 : RvS P Γ Ω r1 e1) (h2 : RvS P Γ Ω r2 e2) (h3 : RvS P Γ Ω r3 e3) :
    JE ⟨P, fn, n, w, O, fun b => (own0 b).isSome = true, B, []⟩ Γ Ω (bodyPost P fn (RetS Ωo (TUP [e1, e2, e3]) w O gs0 own0)) .ret :=
  JE.retS_of hk hp hΩ fun a w' gs own hs => by
    obtain ⟨v1, hv1, he1⟩ := h1 _ _ _ _ _ rfl hs
    obtain ⟨v2, hv2, he2⟩ := h2 _ _ _ _ _ rfl hs
    obtain ⟨v3, hv3, he3⟩ := h3 _ _ _ _ _ rfl hs
    refine ⟨.tuple #[v1, v2, v3], ?_, [_, _, _], rfl, .cons he1 (.cons he2 (.cons he3 .nil))⟩
    unfold results; rw [hr]
    simp only [List.mapM_toArray, List.mapM_cons, List.mapM_nil, run_bind, run_map]
    cases r1 <;> cases r2 <;> cases r3 <;> simp_all [run_pure, run_bind]
end
/-! ### Calls -/
def gsOf (σ : List (Nat × Nat)) (gs : Nat → Option Value) : Nat → Option Value := fun i => (σ.lookup i).bind gs
def ownOf (σ : List (Nat × Nat)) (own : Nat → Option Nat) : Nat → Option Nat := fun b => (own b).bind fun j => (σ.map fun p => (p.2, p.1)).lookup j
/-- An entry under other names. -/
def Ren (σ : List (Nat × Nat)) (e e' : Ent) : Prop := ∀ gs S w v, e.sem gs S w v → e'.sem (gsOf σ gs) S w v
theorem Ren.dat {σ : List (Nat × Nat)} {α : Type} {R : RT α} {d : α} : Ren σ (D R d) (D R d) := fun _ _ _ _ h => h
theorem Ren.bp {σ : List (Nat × Nat)} {i i' o : Nat} (h : σ.lookup i' = some i) : Ren σ (BP i o) (BP i' o) := fun _ _ _ _ ⟨b, h1, h2⟩ => ⟨b, by simp [gsOf, h, h1], h2⟩
theorem Ren.os {σ : List (Nat × Nat)} {i i' : Nat} (h : σ.lookup i' = some i) : Ren σ (OS i) (OS i') := fun gs _ _ v hv => by
  have : gs i = some v := hv
  show gsOf σ gs i' = some v
  simp [gsOf, h, this]
inductive RenAll (σ : List (Nat × Nat)) : List Ent → List Ent → Prop
  | nil : RenAll σ [] []
  | cons {e e' es es'} : Ren σ e e' → RenAll σ es es' → RenAll σ (e :: es) (e' :: es')
theorem RenAll.sems {σ : List (Nat × Nat)} {gs S w} : ∀ {es es' vs}, RenAll σ es es' → Sems gs S w es vs → Sems (gsOf σ gs) S w es' vs
  | _, _, _, .nil, .nil => .nil
  | _, _, _, .cons h t, .cons h' t' => .cons (h _ _ _ _ h') (t.sems t')
theorem Ren.fv {σ : List (Nat × Nat)} {g : Nat} {es es' : List Ent} (h : RenAll σ es es') : Ren σ (FV g es) (FV g es') := fun _ _ _ _ ⟨vs, h1, h2⟩ => ⟨vs, h1, h.sems h2⟩
theorem Ren.tup {σ : List (Nat × Nat)} {es es' : List Ent} (h : RenAll σ es es') : Ren σ (TUP es) (TUP es') := fun _ _ _ _ ⟨vs, h1, h2⟩ => ⟨vs, h1, h.sems h2⟩
inductive OpdsR (σ : List (Nat × Nat)) (Γ : Gam) : List Operand → List Ent → Prop
  | nil : OpdsR σ Γ [] []
  | cons {x xs e e' es} : Opd Γ x e → Ren σ e e' → OpdsR σ Γ xs es → OpdsR σ Γ (x :: xs) (e' :: es)
theorem OpdsR.sems {σ : List (Nat × Nat)} {a : Act} {w : World} {gs : Nat → Option Value} {own : Nat → Option Nat} (hs : SatD X Γ Ω a w gs own) : ∀ {xs es}, OpdsR σ Γ xs es → Sems (gsOf σ gs) (X.S own) w es (xs.map a.eval)
  | _, _, .nil => .nil
  | _, _, .cons h r t => .cons (r _ _ _ _ (h.sat hs)) (t.sems hs)
/-- What comes back, under the caller's names. -/
def RelG (σ : List (Nat × Nat)) (g' g : Nat → Option Value) : Prop := ∀ i' j, σ.lookup i' = some j → g j = g' i'
def RenB (σ : List (Nat × Nat)) (e' e : Ent) : Prop := ∀ g' g S w v, RelG σ g' g → e'.sem g' S w v → e.sem g S w v
theorem RenB.dat {σ : List (Nat × Nat)} {α : Type} {R : RT α} {d : α} : RenB σ (D R d) (D R d) := fun _ _ _ _ _ _ h => h
theorem RenB.os {σ : List (Nat × Nat)} {i j : Nat} (h : σ.lookup i = some j) : RenB σ (OS i) (OS j) := fun g' g _ _ v hr hv => by
  have : g' i = some v := hv
  show g j = some v
  rw [hr i j h, this]
inductive RenBs (σ : List (Nat × Nat)) : List Ent → List Ent → Prop
  | nil : RenBs σ [] []
  | cons {e' e es' es} : RenB σ e' e → RenBs σ es' es → RenBs σ (e' :: es') (e :: es)
theorem RenBs.sems {σ : List (Nat × Nat)} {g' g S w} (hr : RelG σ g' g) : ∀ {es' es vs}, RenBs σ es' es → Sems g' S w es' vs → Sems g S w es vs
  | _, _, _, .nil, .nil => .nil
  | _, _, _, .cons h t, .cons h' t' => .cons (h _ _ _ _ _ hr h') (t.sems hr t')
theorem RenB.tups {σ : List (Nat × Nat)} {es' es : List Ent} (h : RenBs σ es' es) : RenB σ (TUP es') (TUP es) := fun _ _ _ _ _ hr ⟨vs, h1, h2⟩ => ⟨vs, h1, h.sems hr h2⟩
inductive DatAll : List Ent → Prop
  | nil : DatAll []
  | cons {α : Type} {R : RT α} {d : α} {es : List Ent} : DatAll es → DatAll (D R d :: es)
theorem DatAll.sems {gs gs' S w} : ∀ {es vs}, DatAll es → Sems gs S w es vs → Sems gs' S w es vs
  | _, _, .nil, .nil => .nil
  | _, _, .cons t, .cons h' t' => .cons h' (t.sems t')
theorem RenB.tup {σ : List (Nat × Nat)} {es : List Ent} (h : DatAll es) : RenB σ (TUP es) (TUP es) := fun _ _ _ _ _ _ ⟨vs, h1, h2⟩ => ⟨vs, h1, h.sems h2⟩
/-- The objects that are handed over: names, as the callee sees them ahead and behind, as the caller sees them behind; 'new': an object that the callee makes. -/
inductive Pass (Ω : Omg) : List (Nat × Nat) → Omg → Omg → Omg → Prop
  | nil : Pass Ω [] [] [] []
  | cons {i i' : Nat} {e0 e1 e2 e3 : OEnt} {σ : List (Nat × Nat)} {Ωi Ωo Ωn : Omg} : Ω.lookup i = some e0 → (∀ g g' v B S w, e0.holds g v B S w → e1.holds g' v B S w) → (∀ g g' g'' v B S w B' S' w', e0.holds g v B S w → e2.holds g' v B' S' w' → e3.holds g'' v B' S' w') → Pass Ω σ Ωi Ωo Ωn →
      Pass Ω ((i', i) :: σ) ((i', e1) :: Ωi) ((i', e2) :: Ωo) ((i, e3) :: Ωn)
  | new {i i' : Nat} {e2 e3 : OEnt} {σ : List (Nat × Nat)} {Ωi Ωo Ωn : Omg} : Ω.lookup i = none → (∀ g g' v B S w, e2.holds g v B S w → e3.holds g' v B S w) → Pass Ω σ Ωi Ωo Ωn →
      Pass Ω ((i', i) :: σ) Ωi ((i', e2) :: Ωo) ((i, e3) :: Ωn)
theorem Pass.box {Ω : Omg} {i i' T : Nat} {α : Type} {R : RT α} {d d' : α} {φ : Value → Prop} {σ : List (Nat × Nat)} {Ωi Ωo Ωn : Omg} (hi : Ω.lookup i = some (BoxAt φ R T d)) (h : Pass Ω σ Ωi Ωo Ωn) :
    Pass Ω ((i', i) :: σ) ((i', Box R T d) :: Ωi) ((i', Box R T d') :: Ωo) ((i, BoxAt φ R T d') :: Ωn) :=
  .cons hi (fun _ _ v B S w ⟨b, cs, h1, h0, h2⟩ => ⟨b, cs, h1, trivial, h2⟩) (fun _ _ _ v B S w B' S' w' ⟨_, _, _, h0, _⟩ ⟨b, cs, h1, _, h2⟩ => ⟨b, cs, h1, h0, h2⟩) h
theorem Pass.inn {Ω : Omg} : ∀ {σ : List (Nat × Nat)} {Ωi Ωo Ωn : Omg} {i' : Nat} {e1 : OEnt}, Pass Ω σ Ωi Ωo Ωn → (σ.map Prod.fst).Nodup → Ωi.lookup i' = some e1 → ∃ i e0, σ.lookup i' = some i ∧ Ω.lookup i = some e0 ∧ (∀ g g' v B S w, e0.holds g v B S w → e1.holds g' v B S w)
  | _, _, _, _, _, _, .nil, _, h => by simp at h
  | _, _, _, _, j, e, .cons (i' := i') h1 h2 h3 h4, hn, h => by
    simp only [List.map_cons, List.nodup_cons] at hn
    rw [lookup_cons] at h ⊢
    by_cases hj : j = i'
    · subst hj; simp only [if_true, Option.some.injEq] at h; subst h; exact ⟨_, _, by simp, h1, h2⟩
    · rw [if_neg hj] at h ⊢; exact h4.inn hn.2 h
  | _, _, _, _, j, e, .new (i' := i') h1 h2 h4, hn, h => by
    simp only [List.map_cons, List.nodup_cons] at hn
    rw [lookup_cons]
    obtain ⟨i, e0, k1, k2, k3⟩ := h4.inn hn.2 h
    by_cases hj : j = i'
    · subst hj
      exact absurd (List.mem_of_elem_eq_true ((lookup_mem (l := _) (i := j)).2 (by rw [k1]; simp))) hn.1
    · rw [if_neg hj]; exact ⟨i, e0, k1, k2, k3⟩
theorem Pass.fresh {Ω : Omg} : ∀ {σ : List (Nat × Nat)} {Ωi Ωo Ωn : Omg} {i' j : Nat}, Pass Ω σ Ωi Ωo Ωn → Ωi.lookup i' = none → σ.lookup i' = some j → Ω.lookup j = none
  | _, _, _, _, _, _, .nil, _, h => by simp at h
  | _, _, _, _, q, j, .cons (i' := i') h1 h2 h3 h4, hi, h => by
    rw [lookup_cons] at h hi
    by_cases hj : q = i'
    · subst hj; simp at hi
    · rw [if_neg hj] at h hi; exact h4.fresh hi h
  | _, _, _, _, q, j, .new (i' := i') h1 h2 h4, hi, h => by
    rw [lookup_cons] at h
    by_cases hj : q = i'
    · subst hj; simp only [if_true, Option.some.injEq] at h; subst h; exact h1
    · rw [if_neg hj] at h; exact h4.fresh hi h
theorem Pass.keyso {Ω : Omg} : ∀ {σ : List (Nat × Nat)} {Ωi Ωo Ωn : Omg} {i' : Nat}, Pass Ω σ Ωi Ωo Ωn → (σ.lookup i' = none ↔ Ωo.lookup i' = none)
  | _, _, _, _, _, .nil => by simp
  | _, _, _, _, j, .cons (i' := i') h1 h2 h3 h4 => by
    rw [lookup_cons, lookup_cons]
    by_cases hj : j = i'
    · subst hj; simp
    · rw [if_neg hj, if_neg hj]; exact h4.keyso
  | _, _, _, _, j, .new (i' := i') h1 h2 h4 => by
    rw [lookup_cons, lookup_cons]
    by_cases hj : j = i'
    · subst hj; simp
    · rw [if_neg hj, if_neg hj]; exact h4.keyso
theorem Pass.keysn {Ω : Omg} : ∀ {σ : List (Nat × Nat)} {Ωi Ωo Ωn : Omg} {i : Nat}, Pass Ω σ Ωi Ωo Ωn → ((σ.map fun p => (p.2, p.1)).lookup i = none ↔ Ωn.lookup i = none)
  | _, _, _, _, _, .nil => by simp
  | _, _, _, _, j, .cons (i := i) h1 h2 h3 h4 => by
    rw [List.map_cons, lookup_cons, lookup_cons]
    by_cases hj : j = i
    · subst hj; simp
    · rw [if_neg hj, if_neg hj]; exact h4.keysn
  | _, _, _, _, j, .new (i := i) h1 h2 h4 => by
    rw [List.map_cons, lookup_cons, lookup_cons]
    by_cases hj : j = i
    · subst hj; simp
    · rw [if_neg hj, if_neg hj]; exact h4.keysn
theorem Pass.back {Ω : Omg} : ∀ {σ : List (Nat × Nat)} {Ωi Ωo Ωn : Omg} {i i' : Nat} {e3 : OEnt}, Pass Ω σ Ωi Ωo Ωn → (σ.map Prod.fst).Nodup → Ωn.lookup i = some e3 → (σ.map fun p => (p.2, p.1)).lookup i = some i' →
    ∃ e2, Ωo.lookup i' = some e2 ∧ σ.lookup i' = some i ∧ ((∃ e0, Ω.lookup i = some e0 ∧ (∀ g g' g'' v B S w B' S' w', e0.holds g v B S w → e2.holds g' v B' S' w' → e3.holds g'' v B' S' w')) ∨ (Ω.lookup i = none ∧ (∀ g g' v B S w, e2.holds g v B S w → e3.holds g' v B S w)))
  | _, _, _, _, _, _, _, .nil, _, h, _ => by simp at h
  | _, _, _, _, j, j', e, .cons (i := i) (i' := i') h1 h2 h3 h4, hn, h, hl => by
    rw [List.map_cons, lookup_cons] at hl
    rw [lookup_cons] at h
    simp only [List.map_cons, List.nodup_cons] at hn
    by_cases hj : j = i
    · subst hj; simp only [if_true, Option.some.injEq] at h hl; subst h; subst hl
      exact ⟨_, by simp, by simp, .inl ⟨_, h1, h3⟩⟩
    · rw [if_neg hj] at h hl
      obtain ⟨e2, k2, k3, k4⟩ := h4.back hn.2 h hl
      refine ⟨e2, ?_, ?_, k4⟩
      all_goals
        rw [lookup_cons]
        have : ¬ j' = i' := by
          rintro rfl
          apply hn.1
          have := (lookup_mem (l := _) (i := j')).2 (by rw [k3]; simp)
          simpa using this
        rw [if_neg this]; assumption
  | _, _, _, _, j, j', e, .new (i := i) (i' := i') h1 h2 h4, hn, h, hl => by
    rw [List.map_cons, lookup_cons] at hl
    rw [lookup_cons] at h
    simp only [List.map_cons, List.nodup_cons] at hn
    by_cases hj : j = i
    · subst hj; simp only [if_true, Option.some.injEq] at h hl; subst h; subst hl
      exact ⟨_, by simp, by simp, .inr ⟨h1, h2⟩⟩
    · rw [if_neg hj] at h hl
      obtain ⟨e2, k2, k3, k4⟩ := h4.back hn.2 h hl
      refine ⟨e2, ?_, ?_, k4⟩
      all_goals
        rw [lookup_cons]
        have : ¬ j' = i' := by
          rintro rfl
          apply hn.1
          have := (lookup_mem (l := _) (i := j')).2 (by rw [k3]; simp)
          simpa using this
        rw [if_neg this]; assumption
theorem inv_lookup : ∀ {σ : List (Nat × Nat)} {i i' : Nat}, (σ.map Prod.snd).Nodup → σ.lookup i' = some i → (σ.map fun p => (p.2, p.1)).lookup i = some i'
  | [], _, _, _, h => by simp at h
  | (k', k) :: σ, i, i', hn, h => by
    simp only [List.map_cons, List.nodup_cons] at hn
    rw [lookup_cons] at h
    rw [List.map_cons, lookup_cons]
    by_cases hj : i' = k'
    · subst hj; simp only [if_true, Option.some.injEq] at h; subst h; simp
    · rw [if_neg hj] at h
      have hr := inv_lookup hn.2 h
      have hne : ¬ i = k := by
        rintro rfl
        apply hn.1
        have := (lookup_mem (l := σ.map fun p => (p.2, p.1)) (i := i)).2 (by rw [hr]; simp)
        simpa using this
      rw [if_neg hne]; exact hr
theorem inv_lookup' {σ : List (Nat × Nat)} {i i' : Nat} (hn : (σ.map Prod.fst).Nodup) (h : (σ.map fun p => (p.2, p.1)).lookup i = some i') : σ.lookup i' = some i := by
  have := inv_lookup (σ := σ.map fun p => (p.2, p.1)) (i := i') (i' := i) (by simpa [Function.comp_def] using hn) h
  simpa [Function.comp_def] using this
theorem lookup_append_some {β : Type _} : ∀ {l m : List (Nat × β)} {i : Nat}, (l ++ m).lookup i = match l.lookup i with | some x => some x | none => m.lookup i
  | [], m, i => by simp
  | (k, x) :: l, m, i => by
    rw [List.cons_append, lookup_cons, lookup_cons]
    by_cases h : i = k
    · simp [h]
    · rw [if_neg h, if_neg h]; exact lookup_append_some
/-- A method bound to a receiver. -/
def BM (g : Nat) (bs : List Ent) : Ent := ⟨fun gs S w v => ∃ vs : List Value, v = .func (.func g) vs.toArray #[] ∧ Sems gs S w bs vs, fun hg hl ⟨vs, h1, h2⟩ => ⟨vs, h1, h2.mono hg hl⟩⟩
theorem Keeps.bm {ks : List Nat} {g : Nat} {es : List Ent} (h : KeepsAll ks es) : Keeps ks (BM g es) := fun _ _ _ _ ⟨vs, h1, h2⟩ => ⟨vs, h1, h.sems h2⟩
theorem Ren.bm {σ : List (Nat × Nat)} {g : Nat} {es es' : List Ent} (h : RenAll σ es es') : Ren σ (BM g es) (BM g es') := fun _ _ _ _ ⟨vs, h1, h2⟩ => ⟨vs, h1, h.sems h2⟩
theorem run_call_bound {P : Program} {w : World} {a : Act} {f : Nat} {x : Operand} {xs : List Operand} {tys : Array Nat} {dst : Option Nat} {ty : Nat} {pos : String} {af : Array Edge} {g : Option (Nat × Bool)} {vs : List Value}
    (hx : a.eval x = .func (.func f) vs.toArray #[]) (he : Enters P f) :
    (execOp a.eval ⟨dst, .call ⟨.value x, xs.toArray, tys⟩, ty, pos, af, g⟩).run P w = .ok (.enter f (vs ++ xs.map a.eval).toArray) w := by
  simp only [execOp, resolve, run_bind, hx, Deferred.ofValue, run_pure, List.map_toArray]
  have : ∀ args : Array Value, invoke (.fn (.func f) #[]) args = callFunc f (args ++ #[]) := fun _ => rfl
  rw [this, he]
  simp
theorem Sems.append {gs : Nat → Option Value} {S : Nat → Prop} {w : World} {es1 es2 : List Ent} {vs1 vs2 : List Value} (h : Sems gs S w es1 vs1) (k : Sems gs S w es2 vs2) : Sems gs S w (es1 ++ es2) (vs1 ++ vs2) := by
  induction h with
  | nil => exact k
  | cons h _ ih => exact .cons h ih
theorem callS_hand {ins : List Ent} {σ : List (Nat × Nat)} {Ωi Ωo Ωn : Omg} {a : Act} {w : World} {gs : Nat → Option Value} {own : Nat → Option Nat} (hs : SatD X Γ Ω a w gs own) (hp : Pass Ω σ Ωi Ωo Ωn) (hn1 : (σ.map Prod.fst).Nodup) (hn2 : (σ.map Prod.snd).Nodup) :
    SO (fun b => X.S own b ∧ ownOf σ own b = none) (ownOf σ own) = X.S own ∧ Hand w (fun b => X.S own b ∧ ownOf σ own b = none) (gsOf σ gs) (ownOf σ own) Ωi := by
  have hown : ∀ b i', ownOf σ own b = some i' ↔ ∃ i, own b = some i ∧ σ.lookup i' = some i := by
    intro b i'
    constructor
    · intro h
      obtain ⟨i, k1, k2⟩ := Option.bind_eq_some_iff.1 h
      exact ⟨i, k1, inv_lookup' hn1 k2⟩
    · rintro ⟨i, k1, k2⟩
      exact Option.bind_eq_some_iff.2 ⟨i, k1, inv_lookup hn2 k2⟩
  have hsub : ∀ b, (ownOf σ own b).isSome = true → (own b).isSome = true := by
    intro b hb
    cases ho : own b with
    | none => simp [ownOf, ho] at hb
    | some i => rfl
  have hS : SO (fun b => X.S own b ∧ ownOf σ own b = none) (ownOf σ own) = X.S own := by
    funext b
    rw [eq_iff_iff]
    constructor
    · rintro (h | h)
      · exact h.1
      · exact .inr (hsub b h)
    · intro h
      cases ho : ownOf σ own b with
      | none => exact .inl ⟨h, ho⟩
      | some i => exact .inr (by rw [ho]; rfl)
  have hlt : ∀ b, X.S own b → b < w.heap.size := fun b hb => by
    rcases hb with hb | hb
    · exact Nat.lt_of_lt_of_le (hs.olt b hb) hs.fut.size
    · cases ho : own b with
      | none => rw [ho] at hb; cases hb
      | some i => exact (hs.ownok b i ho).1
  have hh : Hand w (fun b => X.S own b ∧ ownOf σ own b = none) (gsOf σ gs) (ownOf σ own) Ωi := {
    olt := fun b hb => hlt b hb.1
    ownok := fun b i hb => by
      obtain ⟨j, k1, k2⟩ := (hown b i).1 hb
      exact ⟨(hs.ownok b j k1).1, fun k => by rw [k.2] at hb; cases hb⟩
    keys := fun i hi k => hi (by
      cases hl : σ.lookup i with
      | none => simp [gsOf, hl]
      | some j =>
        have h1 := hp.fresh k hl
        have : gs j = none := by
          cases hg : gs j with
          | none => rfl
          | some x => exact absurd h1 (hs.keys j (by rw [hg]; simp))
        simp [gsOf, hl, this])
    okeys := fun b i hb k => by
      obtain ⟨j, k1, k2⟩ := (hown b i).1 hb
      exact hs.okeys b j k1 (hp.fresh k k2)
    obj := fun i' e1 hi => by
      obtain ⟨i, e0, k1, k2, k3⟩ := hp.inn hn1 hi
      obtain ⟨v, k4, k5⟩ := hs.obj i e0 k2
      refine ⟨v, by simp [gsOf, k1, k4], k3 gs _ _ _ _ _ ?_⟩
      have hB : (fun b => ownOf σ own b = some i') = (fun b => own b = some i) := by
        funext b
        rw [eq_iff_iff, hown b i']
        constructor
        · rintro ⟨j, l1, l2⟩; rw [k1] at l2; cases l2; exact l1
        · intro h; exact ⟨i, h, k1⟩
      rw [hB, hS]; exact k5 }
  exact ⟨hS, hh⟩
theorem callS_behind {out out' : Ent} {σ : List (Nat × Nat)} {Ωi Ωo Ωn : Omg} {a : Act} {w w' : World} {gs : Nat → Option Value} {own : Nat → Option Nat} {e : Ending} (hs : SatD X Γ Ω a w gs own) (hp : Pass Ω σ Ωi Ωo Ωn) (hn1 : (σ.map Prod.fst).Nodup) (hn2 : (σ.map Prod.snd).Nodup) (hw : RenB σ out out')
    (hret : RetS Ωo out w (fun b => X.S own b ∧ ownOf σ own b = none) (gsOf σ gs) (ownOf σ own) e w') :
    ∃ v gs2 ow2, e = .returned v ∧ SatD X Γ (Ωn ++ Ω) a w' gs2 ow2 ∧ out'.sem gs2 (X.S ow2) w' v := by
  have hown : ∀ b i', ownOf σ own b = some i' ↔ ∃ i, own b = some i ∧ σ.lookup i' = some i := by
    intro b i'
    constructor
    · intro h
      obtain ⟨i, k1, k2⟩ := Option.bind_eq_some_iff.1 h
      exact ⟨i, k1, inv_lookup' hn1 k2⟩
    · rintro ⟨i, k1, k2⟩
      exact Option.bind_eq_some_iff.2 ⟨i, k1, inv_lookup hn2 k2⟩
  have hsub : ∀ b, (ownOf σ own b).isSome = true → (own b).isSome = true := by
    intro b hb
    cases ho : own b with
    | none => simp [ownOf, ho] at hb
    | some i => rfl
  obtain ⟨v, own', g', rfl, hf, q0, q1, q2, q3, q4⟩ := hret
  obtain ⟨gs2, hg2, hgr, hgk⟩ : ∃ gs2 : Nat → Option Value, (∀ i x, gs i = some x → gs2 i = some x) ∧ RelG σ g' gs2 ∧ (∀ j, gs2 j ≠ none → gs j ≠ none ∨ (σ.map fun p => (p.2, p.1)).lookup j ≠ none) := by
    refine ⟨fun j => match gs j with | some x => some x | none => ((σ.map fun p => (p.2, p.1)).lookup j).bind g', fun i x hx => by simp [hx], fun i' j hl => ?_, fun j hj => ?_⟩
    · show (match gs j with | some x => some x | none => ((σ.map fun p => (p.2, p.1)).lookup j).bind g') = g' i'
      cases hg : gs j with
      | some x => exact (q0 i' x (by simp [gsOf, hl, hg])).symm
      | none => simp [inv_lookup hn2 hl]
    · cases hg : gs j with
      | some x => exact .inl (by simp)
      | none =>
        right
        intro k
        simp [hg, k] at hj
  -- the blocks behind the call
  obtain ⟨ow2, hon⟩ : ∃ ow2 : Nat → Option Nat, ∀ b j, ow2 b = some j ↔ (∃ i', own' b = some i' ∧ σ.lookup i' = some j) ∨ (own' b = none ∧ own b = some j ∧ Ωn.lookup j = none) := by
    refine ⟨(fun b => match own' b with | some i' => σ.lookup i' | none => match own b with | some j => if (Ωn.lookup j).isSome then none else some j | none => none), ?_⟩
    intro b j
    show (match own' b with | some i' => σ.lookup i' | none => match own b with | some j => if (Ωn.lookup j).isSome then none else some j | none => none) = some j ↔ _
    cases h1 : own' b with
    | some i' => simp
    | none =>
      cases h2 : own b with
      | none => simp
      | some k =>
        simp only []
        constructor
        · intro h
          split at h
          · cases h
          · rename_i hne
            simp only [Option.some.injEq] at h; subst h
            refine .inr ⟨by trivial, rfl, ?_⟩
            cases hl : Ωn.lookup k with
            | none => rfl
            | some _ => rw [hl] at hne; simp at hne
        · rintro (⟨_, h, _⟩ | ⟨_, h, k1⟩)
          · cases h
          · simp only [Option.some.injEq] at h; subst h
            rw [k1]; rfl
  have hpn : ∀ b j, own b = some j → Ωn.lookup j = none → own' b = none := by
    intro b j hb hj
    cases ho : own' b with
    | none => rfl
    | some i' =>
      obtain ⟨_, _, h3⟩ := q1 b i' ho
      rcases h3 with h3 | h3
      · obtain ⟨i2, k1, k2⟩ := Option.bind_eq_some_iff.1 (show ownOf σ own b = some ((ownOf σ own b).get h3) by simp)
        rw [hb] at k1; cases k1
        have := hp.keysn.2 hj
        rw [this] at k2; cases k2
      · have := (hs.ownok b j hb).1; omega
  have hS2 : SO (fun b => X.S own b ∧ ownOf σ own b = none) own' = X.S ow2 := by
    funext b
    rw [eq_iff_iff]
    constructor
    · rintro (⟨h | h, h'⟩ | h)
      · exact .inl h
      · cases ho : own b with
        | none => rw [ho] at h; cases h
        | some j =>
          have hj : Ωn.lookup j = none := by
            have : (σ.map fun p => (p.2, p.1)).lookup j = none := by simpa [ownOf, ho] using h'
            exact hp.keysn.1 this
          right
          rw [(hon b j).2 (.inr ⟨hpn b j ho hj, ho, hj⟩)]; rfl
      · cases ho : own' b with
        | none => rw [ho] at h; cases h
        | some i' =>
          have := q2 b i' ho
          right
          cases hl : σ.lookup i' with
          | none => exact absurd (hp.keyso.1 hl) this
          | some j => rw [(hon b j).2 (.inl ⟨i', ho, hl⟩)]; rfl
    · rintro (h | h)
      · left
        refine ⟨.inl h, ?_⟩
        cases ho : ownOf σ own b with
        | none => rfl
        | some i =>
          obtain ⟨j, k1, _⟩ := (hown b i).1 ho
          exact absurd h (hs.ownok b j k1).2.1
      · cases hm : ow2 b with
        | none => rw [hm] at h; cases h
        | some j =>
          rcases (hon b j).1 hm with ⟨i', k1, _⟩ | ⟨k1, k2, k3⟩
          · exact .inr (by rw [k1]; rfl)
          · left
            refine ⟨.inr (by rw [k2]; rfl), ?_⟩
            have := hp.keysn.2 k3
            simp [ownOf, k2, this]
  have hless : ∀ b, b < w.heap.size → X.S ow2 b → X.S own b := by
    intro b hb h
    rw [← hS2] at h
    rcases h with h | h
    · exact h.1
    · cases ho : own' b with
      | none => rw [ho] at h; cases h
      | some i =>
        rcases (q1 b i ho).2.2 with k | k
        · exact .inr (hsub b k)
        · omega
  have hL := hf.later (S := X.S own) (fun b _ hb => .inr (hsub b hb)) hless
  refine ⟨v, gs2, ow2, rfl, ?_, ?_⟩
  · exact {
      size := hs.size
      defers := hs.defers
      glob := hs.glob.later hL
      fut := hs.fut.trans hf (fun _ _ k => k) (fun b hb k => by
        cases ho : own b with
        | none => simp [ownOf, ho] at k
        | some i =>
          rcases (hs.ownok b i ho).2.2 with k | k
          · exact k
          · omega)
      olt := hs.olt
      ownok := fun b j hb => by
        rcases (hon b j).1 hb with ⟨i', k1, k2⟩ | ⟨k1, k2, k3⟩
        · obtain ⟨l1, l2, l3⟩ := q1 b i' k1
          refine ⟨l1, ?_, ?_⟩
          · intro k
            rcases l3 with l3 | l3
            · exact l2 ⟨.inl k, by
                cases ho : own b with
                | none => have := hsub b l3; rw [ho] at this; cases this
                | some i => exact absurd k (hs.ownok b i ho).2.1⟩
            · have := hs.olt b k; have := hs.fut.size; omega
          · rcases l3 with l3 | l3
            · have := hsub b l3
              cases ho : own b with
              | none => rw [ho] at this; cases this
              | some i => exact (hs.ownok b i ho).2.2
            · right; have := hs.fut.size; omega
        · obtain ⟨l1, l2, l3⟩ := hs.ownok b j k2
          exact ⟨Nat.lt_of_lt_of_le l1 hf.size, l2, l3⟩
      keys := fun j hj k => by
        rw [lookup_append_some] at k
        split at k
        · cases k
        · rename_i hnn
          rcases hgk j hj with h | h
          · exact hs.keys j h k
          · exact h (hp.keysn.2 hnn)
      okeys := fun b j hb k => by
        rw [lookup_append_some] at k
        split at k
        · cases k
        · rename_i hnn
          rcases (hon b j).1 hb with ⟨i', k1, k2⟩ | ⟨k1, k2, k3⟩
          · have := inv_lookup hn2 k2
            rw [hp.keysn.2 hnn] at this; cases this
          · exact hs.okeys b j k2 k
      obj := fun j e hj => by
        rw [lookup_append_some] at hj
        split at hj
        · rename_i e3 hnn
          simp only [Option.some.injEq] at hj; subst hj
          cases hl : (σ.map fun p => (p.2, p.1)).lookup j with
          | none => rw [hp.keysn.1 hl] at hnn; cases hnn
          | some i' =>
            obtain ⟨e2, k2, k3, k4⟩ := hp.back hn1 hnn hl
            obtain ⟨x, m1, m2⟩ := q3 i' e2 k2
            have hB : (fun b => ow2 b = some j) = (fun b => own' b = some i') := by
              funext b
              rw [eq_iff_iff, hon b j]
              constructor
              · rintro (⟨i2, n1, n2⟩ | ⟨n1, n2, n3⟩)
                · have := inv_lookup hn2 n2
                  rw [hl] at this; cases this; exact n1
                · rw [n3] at hnn; cases hnn
              · intro h; exact .inl ⟨i', h, k3⟩
            refine ⟨x, by rw [hgr i' j k3]; exact m1, ?_⟩
            rw [hB, ← hS2]
            rcases k4 with ⟨e0, k1, k4⟩ | ⟨k1, k4⟩
            · obtain ⟨v0, l1, l2⟩ := hs.obj j e0 k1
              have hx' : x = v0 := by
                have h1 := q0 i' v0 (by simp [gsOf, k3, l1])
                rw [m1] at h1; exact Option.some.inj h1
              subst hx'
              exact k4 _ _ _ _ _ _ _ _ _ _ l2 m2
            · exact k4 _ _ _ _ _ _ m2
        · rename_i hnn
          obtain ⟨v0, l1, l2⟩ := hs.obj j e hj
          refine ⟨v0, hg2 _ _ l1, ?_⟩
          have hB : (fun b => ow2 b = some j) = (fun b => own b = some j) := by
            funext b
            rw [eq_iff_iff, hon b j]
            constructor
            · rintro (⟨i2, n1, n2⟩ | ⟨n1, n2, n3⟩)
              · have := inv_lookup hn2 n2
                rw [hp.keysn.2 hnn] at this; cases this
              · exact n2
            · intro h; exact .inr ⟨hpn b j h hnn, h, hnn⟩
          rw [hB]
          refine e.stable hg2 l2 (fun b hb => hf.block b (hs.ownok b j hb).1 (fun k => ?_)) hL
          have := hp.keysn.2 hnn
          simp [ownOf, hb, this] at k
      ent := fun t e ht => e.mono hg2 hL (hs.ent t e ht) }
  · rw [← hS2]
    exact hw _ _ _ _ _ hgr q4
theorem op_callS_core {f : Nat} {o : Oper} {d : Nat} {ins : List Ent} {out out' : Ent} {σ : List (Nat × Nat)} {Ωi Ωo Ωn : Omg} (ho : o.dst = some d)
    (hrun : ∀ a w gs own, SatD X Γ Ω a w gs own → ∃ args : List Value, (execOp a.eval o).run X.P w = .ok (.enter f args.toArray) w ∧ Sems (gsOf σ gs) (X.S own) w ins args)
    (hc : SCon X.B X.P f Ωi ins Ωo out) (hp : Pass Ω σ Ωi Ωo Ωn)
    (hn1 : (σ.map Prod.fst).Nodup) (hn2 : (σ.map Prod.snd).Nodup) (hw : RenB σ out out') (hd : Nat.blt d X.n = true) :
    ST X Γ Ω o ((d, out') :: Γ) (Ωn ++ Ω) := by
  rintro a w Q ⟨gs, own, hs⟩
  obtain ⟨args, hr1, hr2⟩ := hrun a w gs own hs
  obtain ⟨hS, hh⟩ := callS_hand (ins := ins) hs hp hn1 hn2
  unfold Oper.wp
  rw [hr1, Oper.upon_enter]
  refine (hc w _ _ _ _ hh (by rw [hS]; exact hs.glob) (by rw [hS]; exact hr2)).mono ?_
  intro e w' hret
  obtain ⟨v, gs2, ow2, rfl, k1, k2⟩ := callS_behind hs hp hn1 hn2 hw hret
  simp only [ho]
  exact ⟨gs2, ow2, k1.put (lt_of_blt hd) (Fut.refl _ _) k2⟩
section
variable {f : Nat} {x : Operand} {xs : List Operand} {tys : Array Nat} {d ty : Nat} {pos : String} {af : Array Edge} {g : Option (Nat × Bool)} {es cs cs' : List Ent} {out out' : Ent} {σ : List (Nat × Nat)} {Ωi Ωo Ωn : Omg}
/-- A call by contract, of a function that turns what it is handed. -/
theorem qg (hx : Opd Γ x (FV f cs)) (hc : SCon X.B X.P f Ωi (es ++ cs') Ωo out) (he : Enters X.P f) (hargs : OpdsR σ Γ xs es) (hz : RenAll σ cs cs') (hp : Pass Ω σ Ωi Ωo Ωn) (hw : RenB σ out out') (hn1 : (σ.map Prod.fst).Nodup := by decide) (hn2 : (σ.map Prod.snd).Nodup := by decide) (hd : Nat.blt d X.n = true := by rfl) :
    ST X Γ Ω ⟨some d, .call ⟨.value x, xs.toArray, tys⟩, ty, pos, af, g⟩ ((d, out') :: Γ) (Ωn ++ Ω) :=
  op_callS_core rfl (fun a w gs own hs => by
    obtain ⟨vs, h1, h2⟩ := hx.sat hs
    exact ⟨_, run_call_func h1 he, (hargs.sems hs).append (hz.sems h2)⟩) hc hp hn1 hn2 hw hd
/-- .. of a bound method. -/
theorem qH (hx : Opd Γ x (BM f cs)) (hc : SCon X.B X.P f Ωi (cs' ++ es) Ωo out) (he : Enters X.P f) (hargs : OpdsR σ Γ xs es) (hz : RenAll σ cs cs') (hp : Pass Ω σ Ωi Ωo Ωn) (hw : RenB σ out out') (hn1 : (σ.map Prod.fst).Nodup := by decide) (hn2 : (σ.map Prod.snd).Nodup := by decide) (hd : Nat.blt d X.n = true := by rfl) :
    ST X Γ Ω ⟨some d, .call ⟨.value x, xs.toArray, tys⟩, ty, pos, af, g⟩ ((d, out') :: Γ) (Ωn ++ Ω) :=
  op_callS_core rfl (fun a w gs own hs => by
    obtain ⟨vs, h1, h2⟩ := hx.sat hs
    exact ⟨_, run_call_bound h1 he, (hz.sems h2).append (hargs.sems hs)⟩) hc hp hn1 hn2 hw hd
/-- A method bound to a receiver, made. -/
theorem qG (h : ∀ X Ω a w gs own, SatD X Γ Ω a w gs own → Sems gs (X.S own) w cs (xs.map a.eval)) (hd : Nat.blt d X.n = true := by rfl) :
    ST X Γ Ω ⟨some d, .makeFunc (.func f) xs.toArray #[], ty, pos, af, g⟩ ((d, BM f cs) :: Γ) Ω :=
  ST.val0 rfl hd fun a w gs own hs => ⟨.func (.func f) (xs.map a.eval).toArray #[], by
    simp only [execOp, Instr.makeFunc, run_value, run_pure, List.map_toArray]; rfl, _, rfl, h X Ω a w gs own hs⟩
end
/-- The end of a body without results. -/
theorem JE.end0 {R : Ending → World → Prop} {P : Program} {fn : Func} (h : JE X Γ Ω (bodyPost P fn R) .ret) : JE X Γ Ω (bodyPost P fn R) .normal := h
end
end Go.Trw
