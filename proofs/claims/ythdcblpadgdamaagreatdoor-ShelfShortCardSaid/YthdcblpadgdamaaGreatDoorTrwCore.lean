/- Own work: the core of a typed refinement calculus over the model's weakest preconditions: symbolic states hold data, not values. -/
import Derived.Orders
import Derived.Below
import Derived.KernelRfl
set_option linter.all false
namespace Go.Trw
open Go
/-! ### 1. Later worlds -/
/-- w' is later than w; of the blocks of w only those of S may have turned. -/
structure Fut (S : Nat → Prop) (w w' : World) : Prop where
  os : w'.os = w.os
  tape : w'.tape = w.tape
  output : w'.output = w.output
  size : w.heap.size ≤ w'.heap.size
  block : ∀ b, b < w.heap.size → ¬ S b → w'.heap[b]? = w.heap[b]?
theorem Fut.refl (S : Nat → Prop) (w : World) : Fut S w w := ⟨rfl, rfl, rfl, Nat.le_refl _, fun _ _ _ => rfl⟩
theorem Fut.trans {S1 S2 S : Nat → Prop} {a b c : World} (h : Fut S1 a b) (k : Fut S2 b c)
    (h1 : ∀ x, x < a.heap.size → S1 x → S x) (h2 : ∀ x, x < a.heap.size → S2 x → S x) : Fut S a c :=
  ⟨k.os.trans h.os, k.tape.trans h.tape, k.output.trans h.output, Nat.le_trans h.size k.size,
   fun i hi hS => (k.block i (Nat.lt_of_lt_of_le hi h.size) (fun hk => hS (h2 i hi hk))).trans (h.block i hi (fun hk => hS (h1 i hi hk)))⟩
theorem Fut.mono {S S' : Nat → Prop} {w w' : World} (h : Fut S w w') (hS : ∀ x, x < w.heap.size → S x → S' x) : Fut S' w w' :=
  ⟨h.os, h.tape, h.output, h.size, fun i hi hn => h.block i hi (fun k => hn (hS i hi k))⟩
/-- A draw: the heap is as it was. -/
theorem Fut.of_heap {S : Nat → Prop} {w w' : World} (h1 : w'.os = w.os) (h2 : w'.tape = w.tape) (h3 : w'.output = w.output) (h4 : w'.heap = w.heap) : Fut S w w' :=
  ⟨h1, h2, h3, by rw [h4]; exact Nat.le_refl _, fun _ _ _ => by rw [h4]⟩
/-- What is known of w outside of S is known of w' outside of S'. -/
structure Later (S : Nat → Prop) (w : World) (S' : Nat → Prop) (w' : World) : Prop where
  size : w.heap.size ≤ w'.heap.size
  block : ∀ b, b < w.heap.size → ¬ S b → w'.heap[b]? = w.heap[b]?
  less : ∀ b, b < w.heap.size → S' b → S b
theorem Later.refl (S : Nat → Prop) (w : World) : Later S w S w := ⟨Nat.le_refl _, fun _ _ _ => rfl, fun _ _ h => h⟩
theorem Later.trans {S S' S'' : Nat → Prop} {w w' w'' : World} (h : Later S w S' w') (k : Later S' w' S'' w'') : Later S w S'' w'' :=
  ⟨Nat.le_trans h.size k.size, fun b hb hS => (k.block b (Nat.lt_of_lt_of_le hb h.size) (fun hk => hS (h.less b hb hk))).trans (h.block b hb hS),
   fun b hb hk => h.less b hb (k.less b (Nat.lt_of_lt_of_le hb h.size) hk)⟩
theorem Fut.later {S S1 S' : Nat → Prop} {w w' : World} (hf : Fut S1 w w') (h1 : ∀ b, b < w.heap.size → S1 b → S b) (h2 : ∀ b, b < w.heap.size → S' b → S b) : Later S w S' w' :=
  ⟨hf.size, fun b hb hS => hf.block b hb (fun k => hS (h1 b hb k)), h2⟩
theorem Fut.later0 {S : Nat → Prop} {w w' : World} (hf : Fut (fun _ => False) w w') : Later S w S w' := hf.later (fun _ _ k => k.elim) (fun _ _ k => k)
theorem Later.less_of {S S' : Nat → Prop} {w : World} (h : ∀ b, b < w.heap.size → S' b → S b) : Later S w S' w := ⟨Nat.le_refl _, fun _ _ _ => rfl, h⟩
/-! ### 2. Representation of data -/
/-- May this value lie in a cell? -/
def cellv : Value → Bool
  | .agg _ | .tuple _ => false
  | _ => true
theorem cellv_cells {v : Value} (h : cellv v = true) : v.cells = #[v] := by cases v <;> simp_all [cellv, Value.cells]
/-- How data of the type α are represented by cells; S: blocks that may turn: no representation leans on them. -/
structure RT (α : Type) where
  agg : Bool
  size : Nat
  rep : (Nat → Prop) → World → List Value → α → Prop
  len : ∀ {S w cs d}, rep S w cs d → cs.length = size
  flat : ∀ {S w cs d}, rep S w cs d → ∀ v ∈ cs, cellv v = true
  one : agg = false → size = 1
  stable : ∀ {S w S' w' cs d}, rep S w cs d → Later S w S' w' → rep S' w' cs d
/-- A value represents data. -/
def RT.val {α : Type} (R : RT α) (S : Nat → Prop) (w : World) (v : Value) (d : α) : Prop :=
  (R.agg = true → ∃ cs, v = .agg cs ∧ R.rep S w cs.toList d) ∧ (R.agg = false → R.rep S w [v] d)
theorem RT.val_stable {α : Type} {R : RT α} {S S' : Nat → Prop} {w w' : World} {v : Value} {d : α} (h : R.val S w v d) (hl : Later S w S' w') : R.val S' w' v d :=
  ⟨fun ha => let ⟨cs, e, hr⟩ := h.1 ha; ⟨cs, e, R.stable hr hl⟩, fun ha => R.stable (h.2 ha) hl⟩
theorem RT.val_cells {α : Type} {R : RT α} {S : Nat → Prop} {w : World} {v : Value} {d : α} (h : R.val S w v d) : R.rep S w v.cells.toList d := by
  cases ha : R.agg with
  | true => obtain ⟨cs, rfl, hr⟩ := h.1 ha; exact hr
  | false =>
    have hr := h.2 ha
    have := R.flat hr v (by simp)
    rw [cellv_cells this]; exact hr
theorem RT.val_of {α : Type} {R : RT α} {S : Nat → Prop} {w : World} {cs : List Value} {d : α} (h : R.rep S w cs d) :
    R.val S w (if R.agg then .agg cs.toArray else cs.headD undef) d := by
  constructor
  · intro ha; exact ⟨cs.toArray, by simp [ha], by simpa using h⟩
  · intro ha
    have h1 := R.len h
    rw [R.one ha] at h1
    obtain ⟨x, rfl⟩ := List.length_eq_one_iff.1 h1
    simpa [ha] using h
/-- An entry: what is known of a value. 'gs': the values by which the objects of the call's own are reached. -/
structure Ent where
  sem : (Nat → Option Value) → (Nat → Prop) → World → Value → Prop
  mono : ∀ {gs gs' : Nat → Option Value} {S S' : Nat → Prop} {w w' : World} {v : Value}, (∀ i x, gs i = some x → gs' i = some x) → Later S w S' w' → sem gs S w v → sem gs' S' w' v
/-- Data. -/
def D {α : Type} (R : RT α) (d : α) : Ent := ⟨fun _ S w v => R.val S w v d, fun _ hl h => RT.val_stable h hl⟩
/-- Nothing. -/
def Ent.top : Ent := ⟨fun _ _ _ _ => True, fun _ _ h => h⟩
/-- This very value. -/
def Ent.raw (x : Value) : Ent := ⟨fun _ _ _ v => v = x, fun _ _ h => h⟩
/-- Known only under a condition; else it is undefined. -/
def Ent.when (c : Prop) (e : Ent) : Ent := ⟨fun gs S w v => (c → e.sem gs S w v) ∧ (¬ c → v = undef), fun hg hl h => ⟨fun hc => e.mono hg hl (h.1 hc), h.2⟩⟩
/-- A pointer into object i, off cells behind its beginning. -/
def BP (i off : Nat) : Ent := ⟨fun gs _ _ v => ∃ b, gs i = some (.pointer (some ⟨b, 0, none⟩)) ∧ v = .pointer (some ⟨b, off, none⟩), fun hg _ ⟨b, h1, h2⟩ => ⟨b, hg _ _ h1, h2⟩⟩
/-- The value of object i (a slice of the call's own). -/
def OS (i : Nat) : Ent := ⟨fun gs _ _ v => gs i = some v, fun hg _ h => hg _ _ h⟩
inductive Sems (gs : Nat → Option Value) (S : Nat → Prop) (w : World) : List Ent → List Value → Prop
  | nil : Sems gs S w [] []
  | cons {e es v vs} : e.sem gs S w v → Sems gs S w es vs → Sems gs S w (e :: es) (v :: vs)
theorem Sems.mono {gs gs' : Nat → Option Value} {S S' : Nat → Prop} {w w' : World} (hg : ∀ i x, gs i = some x → gs' i = some x) (hl : Later S w S' w') : ∀ {es vs}, Sems gs S w es vs → Sems gs' S' w' es vs
  | _, _, .nil => .nil
  | _, _, .cons h t => .cons (Ent.mono _ hg hl h) (t.mono hg hl)
theorem Sems.length {gs : Nat → Option Value} {S : Nat → Prop} {w : World} : ∀ {es vs}, Sems gs S w es vs → vs.length = es.length
  | _, _, .nil => rfl
  | _, _, .cons _ t => by simp [t.length]
/-- A function value: the function and what it has captured. -/
def FV (g : Nat) (es : List Ent) : Ent := ⟨fun gs S w v => ∃ vs : List Value, v = .func (.func g) #[] vs.toArray ∧ Sems gs S w es vs, fun hg hl ⟨vs, h1, h2⟩ => ⟨vs, h1, h2.mono hg hl⟩⟩
/-- A tuple. -/
def TUP (es : List Ent) : Ent := ⟨fun gs S w v => ∃ vs : List Value, v = .tuple vs.toArray ∧ Sems gs S w es vs, fun hg hl ⟨vs, h1, h2⟩ => ⟨vs, h1, h2.mono hg hl⟩⟩
/-- What is known of an object of the call's own: its value v, its blocks B; S: all owned blocks. -/
structure OEnt where
  holds : (Nat → Option Value) → Value → (Nat → Prop) → (Nat → Prop) → World → Prop
  stable : ∀ {gs gs' v B S S' w w'}, (∀ i x, gs i = some x → gs' i = some x) → holds gs v B S w → (∀ b, B b → w'.heap[b]? = w.heap[b]?) → Later S w S' w' → holds gs' v B S' w'
/-- An object that is not used any more. -/
def OEnt.dead : OEnt := ⟨fun _ _ _ _ _ => True, fun _ _ _ _ => trivial⟩
/-- A variable in memory; φ: what is known of its pointer. -/
def BoxAt {α : Type} (φ : Value → Prop) (R : RT α) (T : TypeId) (d : α) : OEnt where
  holds _ v B S w := ∃ b cs, v = .pointer (some ⟨b, 0, none⟩) ∧ φ v ∧ B b ∧ w.heap[b]? = some (.cells (List.toArray cs) T (0, 0)) ∧ R.rep S w cs d
  stable := fun _ ⟨b, cs, h1, h0, h2, h3, h4⟩ hb hr => ⟨b, cs, h1, h0, h2, (hb b h2).trans h3, R.stable h4 hr⟩
def Any (v : Value) : Prop := True
abbrev Box {α : Type} (R : RT α) (T : TypeId) (d : α) : OEnt := BoxAt Any R T d
/-! ### 3. States -/
/-- What is known of the memory in which the run began: it lies there, and stays. -/
def GLOB (B : World → Prop) (S : Nat → Prop) (w : World) : Prop := ∃ W0 : World, B W0 ∧ W0.heap.size ≤ w.heap.size ∧ ∀ b, b < W0.heap.size → w.heap[b]? = W0.heap[b]? ∧ ¬ S b
theorem GLOB.later {B : World → Prop} {S S' : Nat → Prop} {w w' : World} (h : GLOB B S w) (hl : Later S w S' w') : GLOB B S' w' := by
  obtain ⟨W0, h1, h2, h3⟩ := h
  refine ⟨W0, h1, Nat.le_trans h2 hl.size, fun b hb => ?_⟩
  obtain ⟨k1, k2⟩ := h3 b hb
  have hbw := Nat.lt_of_lt_of_le hb h2
  exact ⟨(hl.block b hbw k2).trans k1, fun k => k2 (hl.less b hbw k)⟩
theorem GLOB.cell {B : World → Prop} {S : Nat → Prop} {w : World} (h : GLOB B S w) : ∃ W0 : World, B W0 ∧ ∀ a v, W0.cell? a = some v → w.cell? a = some v := by
  obtain ⟨W0, h1, h2, h3⟩ := h
  refine ⟨W0, h1, fun a v ha => ?_⟩
  by_cases hb : a.block < W0.heap.size
  · have := (h3 a.block hb).1
    unfold World.cell? at ha ⊢
    rw [this]; exact ha
  · unfold World.cell? at ha
    rw [Array.getElem?_eq_none (by omega)] at ha
    simp at ha
/-- What stays while a call is walked. -/
structure Ctx where
  P : Program
  fn : Func
  n : Nat
  w0 : World
  O : Nat → Prop
  E : Nat → Prop
  B : World → Prop
  D : List Deferred
def Ctx.S (X : Ctx) (own : Nat → Option Nat) : Nat → Prop := fun b => X.O b ∨ (own b).isSome = true
abbrev Gam := List (Nat × Ent)
abbrev Omg := List (Nat × OEnt)
structure SatD (X : Ctx) (Γ : Gam) (Ω : Omg) (a : Act) (w : World) (gs : Nat → Option Value) (own : Nat → Option Nat) : Prop where
  size : a.tmps.size = X.n
  defers : a.defers = X.D
  glob : GLOB X.B (X.S own) w
  fut : Fut X.E X.w0 w
  olt : ∀ b, X.O b → b < X.w0.heap.size
  ownok : ∀ b i, own b = some i → b < w.heap.size ∧ ¬ X.O b ∧ (X.E b ∨ X.w0.heap.size ≤ b)
  keys : ∀ i, gs i ≠ none → Ω.lookup i ≠ none
  okeys : ∀ b i, own b = some i → Ω.lookup i ≠ none
  obj : ∀ i e, Ω.lookup i = some e → ∃ v, gs i = some v ∧ e.holds gs v (fun b => own b = some i) (X.S own) w
  ent : ∀ t e, Γ.lookup t = some e → e.sem gs (X.S own) w (a.tmps.getD t undef)
def Sat (X : Ctx) (Γ : Gam) (Ω : Omg) (a : Act) (w : World) : Prop := ∃ gs own, SatD X Γ Ω a w gs own
/-- One state serves where the other is asked for. -/
theorem Sat.weaken {X : Ctx} {Γ Γ' : Gam} {Ω : Omg} {a : Act} {w : World} (h : Sat X Γ Ω a w) (hg : ∀ t e, Γ'.lookup t = some e → Γ.lookup t = some e) : Sat X Γ' Ω a w := by
  obtain ⟨gs, own, h⟩ := h
  exact ⟨gs, own, { h with ent := fun t e ht => h.ent t e (hg t e ht) }⟩
theorem lookup_cons {β : Type _} (k : Nat) (x : β) (l : List (Nat × β)) (t : Nat) : List.lookup t ((k, x) :: l) = if t = k then some x else l.lookup t := by
  by_cases h : t = k
  · subst h; simp [List.lookup]
  · have : (t == k) = false := by simpa using h
    simp [List.lookup, this, h]
/-- A slot is written; the world is later, its heap as it was but for new blocks. -/
theorem SatD.put {X : Ctx} {Γ : Gam} {Ω : Omg} {a : Act} {w w' : World} {gs : Nat → Option Value} {own : Nat → Option Nat} (h : SatD X Γ Ω a w gs own)
    {d : Nat} {e : Ent} {v : Value} (hd : d < X.n) (hf : Fut (fun _ => False) w w') (he : e.sem gs (X.S own) w' v) :
    SatD X ((d, e) :: Γ) Ω (a.put (some d) v) w' gs own where
  size := by simpa [Act.put] using h.size
  defers := h.defers
  glob := h.glob.later hf.later0
  fut := h.fut.trans hf (fun _ _ k => k) (fun _ _ k => k.elim)
  olt := h.olt
  ownok b i hb := by
    obtain ⟨h1, h2, h3⟩ := h.ownok b i hb
    exact ⟨Nat.lt_of_lt_of_le h1 hf.size, h2, h3⟩
  keys := h.keys
  okeys := h.okeys
  obj i e' hi := by
    obtain ⟨v', hv, hh⟩ := h.obj i e' hi
    exact ⟨v', hv, e'.stable (fun _ _ k => k) hh (fun b hb => hf.block b (h.ownok b i hb).1 (fun k => k)) hf.later0⟩
  ent t e' ht := by
    rw [lookup_cons] at ht
    by_cases htd : t = d
    · subst htd
      simp only [if_true, Option.some.injEq] at ht
      subst ht
      have : ((a.put (some t) v).tmps.getD t undef) = v := by
        have hlt : t < a.tmps.size := by rw [h.size]; exact hd
        simp [Act.put, Array.getElem?_setIfInBounds, hlt]
      rw [this]; exact he
    · simp only [htd, if_false] at ht
      have hne : ¬ d = t := fun k => htd k.symm
      have : ((a.put (some d) v).tmps.getD t undef) = a.tmps.getD t undef := by
        simp [Act.put, Array.getElem?_setIfInBounds, hne]
      rw [this]
      exact e'.mono (fun _ _ k => k) hf.later0 (h.ent t e' ht)
/-- An operand that is known. -/
def Opd (Γ : Gam) (x : Operand) (e : Ent) : Prop :=
  ∀ (gs : Nat → Option Value) (S : Nat → Prop) (w : World) (a : Act), (∀ t e, Γ.lookup t = some e → e.sem gs S w (a.tmps.getD t undef)) → e.sem gs S w (a.eval x)
theorem Opd.sat {Γ : Gam} {x : Operand} {e : Ent} (h : Opd Γ x e) {X : Ctx} {Ω : Omg} {a : Act} {w : World} {gs : Nat → Option Value} {own : Nat → Option Nat} (hs : SatD X Γ Ω a w gs own) :
    e.sem gs (X.S own) w (a.eval x) := h _ _ _ _ hs.ent
theorem Opd.tmp {Γ : Gam} {t : Nat} {e : Ent} (h : Γ.lookup t = some e) : Opd Γ (.tmp t) e := fun gs S w a ha => ha t e h
theorem Opd.tmp_when {Γ : Gam} {t : Nat} {c : Prop} {e : Ent} (h : Γ.lookup t = some (.when c e)) (hc : c) : Opd Γ (.tmp t) e :=
  fun gs S w a ha => (ha t _ h).1 hc
theorem Opd.const {Γ : Gam} {v : Value} {e : Ent} (h : ∀ gs S w, e.sem gs S w v) : Opd Γ (.const v) e := fun gs S w a ha => h gs S w
theorem Opd.func {Γ : Gam} {f : Nat} : Opd Γ (.func f) (FV f []) := fun gs S w a ha => ⟨[], rfl, .nil⟩
/-! ### 4. One operation -/
def ST (X : Ctx) (Γ : Gam) (Ω : Omg) (o : Oper) (Γ' : Gam) (Ω' : Omg) : Prop :=
  ∀ a w Q, Sat X Γ Ω a w → o.wp X.P a w (Sat X Γ' Ω') Q
/-- An operation that yields a value; it may draw, or make blocks that are reached by that value alone. -/
theorem ST.val {X : Ctx} {Γ : Gam} {Ω : Omg} {o : Oper} {d : Nat} {e : Ent} (ho : o.dst = some d) (hd : Nat.blt d X.n = true)
    (H : ∀ a w gs own, SatD X Γ Ω a w gs own → ∃ v w', (execOp a.eval o).run X.P w = .ok (.value v) w' ∧ Fut (fun _ => False) w w' ∧ e.sem gs (X.S own) w' v) :
    ST X Γ Ω o ((d, e) :: Γ) Ω := by
  rintro a w Q ⟨gs, own, hs⟩
  obtain ⟨v, w', hr, hf, hv⟩ := H a w gs own hs
  unfold Oper.wp
  rw [hr, Oper.upon_value, ho]
  exact ⟨gs, own, hs.put (by simpa [Nat.blt_eq] using hd) hf hv⟩
theorem ST.val0 {X : Ctx} {Γ : Gam} {Ω : Omg} {o : Oper} {d : Nat} {e : Ent} (ho : o.dst = some d) (hd : Nat.blt d X.n = true)
    (H : ∀ a w gs own, SatD X Γ Ω a w gs own → ∃ v, (execOp a.eval o).run X.P w = .ok (.value v) w ∧ e.sem gs (X.S own) w v) :
    ST X Γ Ω o ((d, e) :: Γ) Ω :=
  ST.val ho hd fun a w gs own hs => let ⟨v, h1, h2⟩ := H a w gs own hs; ⟨v, w, h1, Fut.refl _ _, h2⟩
/-! ### 5. Lists of operations -/
def wpList (P : Program) (all : Array Oper) (Q : Exit → Act → World → Prop) : List Oper → Act → World → Prop
  | [], a, w => Q .normal a w
  | o :: rest, a, w =>
    if Region.wanted o (yielded all a.tmps) then o.wp P a w (wpList P all Q rest) Q
    else wpList P all Q rest (a.put o.dst undef) w
theorem wpList_ops {P : Program} {all : Array Oper} {Q : Exit → Act → World → Prop} : ∀ (l : List Nat) (os : List Oper), l.map (fun i => all[i]?) = os.map some →
    ∀ a w, wpList P all Q os a w → wpOps P all Q l a w
  | [], [], _, a, w, h => h
  | [], _ :: _, he, _, _, _ => by simp at he
  | _ :: _, [], he, _, _, _ => by simp at he
  | i :: l, o :: os, he, a, w, h => by
    simp only [List.map_cons, List.cons.injEq] at he
    simp only [wpOps, he.1]
    simp only [wpList] at h
    split
    · rename_i hw
      rw [if_pos hw] at h
      exact .inl (Oper.wp_mono (fun a w k => wpList_ops l os he.2 a w k) h)
    · rename_i hw
      rw [if_neg hw] at h
      exact wpList_ops l os he.2 _ _ h
/-- The list of operations is walked. -/
def JL (X : Ctx) (all : Array Oper) (Γ : Gam) (Ω : Omg) (os : List Oper) (Q : Exit → Act → World → Prop) : Prop :=
  ∀ a w, Sat X Γ Ω a w → wpList X.P all Q os a w
def JC (X : Ctx) (Γ : Gam) (Ω : Omg) (c : Code) (Q : Exit → Act → World → Prop) : Prop := ∀ a w, Sat X Γ Ω a w → c.wp X.P Q a w
def JE (X : Ctx) (Γ : Gam) (Ω : Omg) (Q : Exit → Act → World → Prop) (e : Exit) : Prop := ∀ a w, Sat X Γ Ω a w → Q e a w
theorem JL.step {X : Ctx} {all : Array Oper} {Γ Γ' : Gam} {Ω Ω' : Omg} {o : Oper} {os : List Oper} {Q : Exit → Act → World → Prop} (hg : o.guard = none)
    (h : ST X Γ Ω o Γ' Ω') (k : JL X all Γ' Ω' os Q) : JL X all Γ Ω (o :: os) Q := by
  intro a w hs
  simp only [wpList]
  rw [if_pos (by simp [Region.wanted, hg])]
  exact Oper.wp_mono (fun a w hw => k a w hw) (h a w Q hs)
theorem JL.nil {X : Ctx} {all : Array Oper} {Γ : Gam} {Ω : Omg} {Q : Exit → Act → World → Prop} (h : JE X Γ Ω Q .normal) : JL X all Γ Ω [] Q := h
theorem range_all (ops : List Oper) : (List.range ops.toArray.size).map (fun i => ops.toArray[i]?) = ops.map some := by
  apply List.ext_getElem
  · simp
  · intro i h1 h2
    simp at h1
    simp [h1]
theorem JC.region {X : Ctx} {Γ : Gam} {Ω : Omg} {id : Nat} {ops : List Oper} {Q : Exit → Act → World → Prop}
    (h : JL X ops.toArray Γ Ω ops Q) : JC X Γ Ω (.region id ops.toArray false) Q :=
  fun a w hs => wp_region (wpList_ops _ _ (range_all ops) a w (h a w hs))
theorem JC.seq {X : Ctx} {Γ : Gam} {Ω : Omg} {x y : Code} {Q : Exit → Act → World → Prop} (h : JC X Γ Ω x (Exit.then (y.wp X.P Q) Q)) : JC X Γ Ω (x.seq y) Q :=
  fun a w hs => wp_seq (h a w hs)
theorem JC.skip {X : Ctx} {Γ : Gam} {Ω : Omg} {Q : Exit → Act → World → Prop} (h : JE X Γ Ω Q .normal) : JC X Γ Ω .skip Q := fun a w hs => wp_skip (h a w hs)
theorem JC.exit {X : Ctx} {Γ : Gam} {Ω : Omg} {id : Nat} {Q : Exit → Act → World → Prop} (h : JE X Γ Ω Q (.exit id)) : JC X Γ Ω (.exit id) Q := fun a w hs => wp_exit (h a w hs)
theorem JC.ret {X : Ctx} {Γ : Gam} {Ω : Omg} {Q : Exit → Act → World → Prop} (h : JE X Γ Ω Q .ret) : JC X Γ Ω .ret Q := fun a w hs => wp_ret (h a w hs)
theorem JC.block {X : Ctx} {Γ : Gam} {Ω : Omg} {id : Nat} {c : Code} {Q : Exit → Act → World → Prop} (h : JC X Γ Ω c (Exit.inBlock id Q)) : JC X Γ Ω (.block id c) Q :=
  fun a w hs => wp_block (h a w hs)
theorem JE.then_normal {X : Ctx} {Γ : Gam} {Ω : Omg} {c : Code} {Q : Exit → Act → World → Prop} (h : JC X Γ Ω c Q) : JE X Γ Ω (Exit.then (c.wp X.P Q) Q) .normal := h
theorem JE.then_exit {X : Ctx} {Γ : Gam} {Ω : Omg} {K : Act → World → Prop} {Q : Exit → Act → World → Prop} {id : Nat} (h : JE X Γ Ω Q (.exit id)) : JE X Γ Ω (Exit.then K Q) (.exit id) := h
theorem JE.then_ret {X : Ctx} {Γ : Gam} {Ω : Omg} {K : Act → World → Prop} {Q : Exit → Act → World → Prop} (h : JE X Γ Ω Q .ret) : JE X Γ Ω (Exit.then K Q) .ret := h
theorem JE.block_normal {X : Ctx} {Γ : Gam} {Ω : Omg} {Q : Exit → Act → World → Prop} {id : Nat} (h : JE X Γ Ω Q .normal) : JE X Γ Ω (Exit.inBlock id Q) .normal := h
theorem JE.block_ret {X : Ctx} {Γ : Gam} {Ω : Omg} {Q : Exit → Act → World → Prop} {id : Nat} (h : JE X Γ Ω Q .ret) : JE X Γ Ω (Exit.inBlock id Q) .ret := h
theorem JE.block_exit {X : Ctx} {Γ : Gam} {Ω : Omg} {Q : Exit → Act → World → Prop} {id : Nat} (h : JE X Γ Ω Q .normal) : JE X Γ Ω (Exit.inBlock id Q) (.exit id) := by
  intro a w hs; simp only [Exit.inBlock, if_true]; exact h a w hs
theorem JE.block_other {X : Ctx} {Γ : Gam} {Ω : Omg} {Q : Exit → Act → World → Prop} {id id' : Nat} (hne : (id' == id) = false) (h : JE X Γ Ω Q (.exit id')) : JE X Γ Ω (Exit.inBlock id Q) (.exit id') := by
  intro a w hs
  have : ¬ id' = id := by simpa using hne
  simp only [Exit.inBlock, this, if_false]; exact h a w hs
theorem JE.weaken {X : Ctx} {Γ Γ' : Gam} {Ω : Omg} {Q : Exit → Act → World → Prop} {e : Exit} (h : JE X Γ' Ω Q e) (hg : ∀ t e, Γ'.lookup t = some e → Γ.lookup t = some e) : JE X Γ Ω Q e :=
  fun a w hs => h a w (hs.weaken hg)
theorem JC.weaken {X : Ctx} {Γ Γ' : Gam} {Ω : Omg} {Q : Exit → Act → World → Prop} {c : Code} (h : JC X Γ' Ω c Q) (hg : ∀ t e, Γ'.lookup t = some e → Γ.lookup t = some e) : JC X Γ Ω c Q :=
  fun a w hs => h a w (hs.weaken hg)
/-! ### 6. Loops -/
theorem wp_loop_ghost {P : Program} {c : Code} {Q : Exit → Act → World → Prop} (I : Nat → Act → World → Prop)
    (round : ∀ n a w, I n a w → c.wp P (Exit.then (fun a' w' => ∃ m, m < n ∧ I m a' w') Q) a w) :
    ∀ n a w, I n a w → (Code.loop c).wp P Q a w := by
  intro n a w hI b k cs
  have key : ∀ n a w, I n a w → ∃ e a' w', Q e a' w' ∧ Arrives P (lone (b.at a (.code c :: .inLoop c :: k)) cs w) b k cs e a' w' := by
    intro n
    induction n using Nat.strongRecOn with
    | _ n ih =>
      intro a w hI
      obtain ⟨e, a₁, w₁, hq, harr⟩ := round n a w hI b (.inLoop c :: k) cs
      cases e with
      | normal =>
        obtain ⟨m, hlt, hI₁⟩ := hq
        obtain ⟨e₂, a₂, w₂, hq₂, harr₂⟩ := ih m hlt a₁ w₁ hI₁
        exact ⟨e₂, a₂, w₂, hq₂, .of_steps (Steps.trans harr (.one step_inLoop)) harr₂⟩
      | exit id => exact ⟨_, a₁, w₁, hq, .pass (x := .inLoop c) rfl (fun _ _ => .inl (by simp)) harr⟩
      | goto l => exact ⟨_, a₁, w₁, hq, .pass (x := .inLoop c) rfl (fun _ _ => .inl (by simp)) harr⟩
      | ret => exact ⟨_, a₁, w₁, hq, .pass (x := .inLoop c) rfl (fun _ _ => .inl (by simp)) harr⟩
      | panic ch => exact ⟨_, a₁, w₁, hq, .pass (x := .inLoop c) rfl (fun _ _ => .inl (by simp)) harr⟩
      | outgrown => exact ⟨_, a₁, w₁, hq, .pass (x := .inLoop c) rfl (fun _ _ => .inl (by simp)) harr⟩
  obtain ⟨e, a', w', hq, harr⟩ := key n a w hI
  exact ⟨e, a', w', hq, .of_steps (.one step_loop) harr⟩
/-- Rounds on data. -/
def iter {S E : Type} (step : S → Option (S ⊕ E)) : Nat → S → Option E
  | 0, _ => none
  | n + 1, s => match step s with
    | none => none
    | some (.inr e) => some e
    | some (.inl s') => iter step n s'
theorem iter_mono {S E : Type} {step : S → Option (S ⊕ E)} {e : E} : ∀ {n m : Nat} {s : S}, iter step n s = some e → n ≤ m → iter step m s = some e
  | 0, _, _, h, _ => by simp [iter] at h
  | n + 1, 0, _, _, hm => by omega
  | n + 1, m + 1, s, h, hm => by
    simp only [iter] at h ⊢
    cases hs : step s with
    | none => simp [hs] at h
    | some r => cases r with
      | inr e' => simpa [hs] using h
      | inl s' => simp only [hs] at h ⊢; exact iter_mono h (by omega)
open Classical in
/-- What a loop comes to: some number of rounds suffices. -/
noncomputable def loopO {S E : Type} (step : S → Option (S ⊕ E)) (s : S) : Option E :=
  if h : ∃ n e, iter step n s = some e then some (Classical.choose (Classical.choose_spec h)) else none
theorem loopO_iter {S E : Type} {step : S → Option (S ⊕ E)} {s : S} {e : E} (h : loopO step s = some e) : ∃ n, iter step n s = some e := by
  unfold loopO at h
  split at h
  · rename_i hx
    exact ⟨_, (Classical.choose_spec (Classical.choose_spec hx)).trans (congrArg some (Option.some.inj h))⟩
  · exact absurd h (by simp)
theorem iter_loopO {S E : Type} {step : S → Option (S ⊕ E)} {s : S} {e : E} {n : Nat} (h : iter step n s = some e) : loopO step s = some e := by
  have hx : ∃ n e, iter step n s = some e := ⟨n, e, h⟩
  unfold loopO
  rw [dif_pos hx]
  have h1 := Classical.choose_spec (Classical.choose_spec hx)
  have h2 := iter_mono h1 (Nat.le_max_left _ n)
  have h3 := iter_mono h (Nat.le_max_right (Classical.choose hx) n)
  rw [h2] at h3
  exact h3
theorem loopO_eq {S E : Type} (step : S → Option (S ⊕ E)) (s : S) : loopO step s = match step s with
    | none => none
    | some (.inr e) => some e
    | some (.inl s') => loopO step s' := by
  cases hs : step s with
  | none =>
    simp only []
    cases h : loopO step s with
    | none => rfl
    | some e => obtain ⟨n, hn⟩ := loopO_iter h; cases n <;> simp [iter, hs] at hn
  | some r => cases r with
    | inr e => exact iter_loopO (n := 1) (by simp [iter, hs])
    | inl s' =>
      simp only []
      cases h : loopO step s' with
      | some e => obtain ⟨n, hn⟩ := loopO_iter h; exact iter_loopO (n := n + 1) (by simp [iter, hs, hn])
      | none =>
        cases h' : loopO step s with
        | none => rfl
        | some e =>
          obtain ⟨n, hn⟩ := loopO_iter h'
          cases n with
          | zero => simp [iter] at hn
          | succ n => simp only [iter, hs] at hn; rw [iter_loopO hn] at h; exact absurd h (by simp)
/-- A loop in the code and a loop on data. -/
theorem JC.loop {X : Ctx} {c : Code} {Q : Exit → Act → World → Prop} {St Ex : Type} (step : St → Option (St ⊕ Ex)) (G : St → Gam) (Om : St → Omg) (e : Ex)
    (round : ∀ s r (K : Act → World → Prop), step s = some r → (∀ s', r = .inl s' → ∀ a w, Sat X (G s') (Om s') a w → K a w) → (∀ e', r = .inr e' → e' = e) →
      JC X (G s) (Om s) c (Exit.then K Q))
    (s0 : St) (h0 : loopO step s0 = some e) {Γ : Gam} {Ω : Omg} (hs : ∀ a w, Sat X Γ Ω a w → Sat X (G s0) (Om s0) a w) : JC X Γ Ω (.loop c) Q := by
  intro a w hsat
  obtain ⟨n, hn⟩ := loopO_iter h0
  refine wp_loop_ghost (I := fun n a w => ∃ s, iter step n s = some e ∧ Sat X (G s) (Om s) a w) ?_ n a w ⟨s0, hn, hs a w hsat⟩
  rintro n a w ⟨s, hi, hsat⟩
  cases n with
  | zero => simp [iter] at hi
  | succ n =>
    cases hst : step s with
    | none => simp [iter, hst] at hi
    | some r =>
      refine round s r _ hst ?_ ?_ a w hsat
      · intro s' hr a' w' hs'
        refine ⟨n, Nat.lt_succ_self n, s', ?_, hs'⟩
        subst hr
        simpa [iter, hst] using hi
      · intro e' hr
        subst hr
        simpa [iter, hst] using hi
def AG : Gam → Gam → Prop
  | _, [] => True
  | Γ, (t, e) :: r => Γ.lookup t = some e ∧ AG Γ r
def AO : Omg → Omg → Prop
  | _, [] => True
  | Ω, (i, e) :: r => Ω.lookup i = some e ∧ AO Ω r
def AF : Omg → List Nat → Prop
  | _, [] => True
  | Ω, i :: r => Ω.lookup i = none ∧ AF Ω r
theorem AG.get : ∀ {r Γ : Gam} {t : Nat} {e : Ent}, AG Γ r → r.lookup t = some e → Γ.lookup t = some e
  | (x, y) :: r, Γ, t, e, h, k => by
    rw [lookup_cons] at k
    by_cases hx : t = x
    · subst hx; rw [if_pos rfl] at k; cases k; exact h.1
    · rw [if_neg hx] at k; exact AG.get h.2 k
theorem AO.get : ∀ {r Ω : Omg} {t : Nat} {e : OEnt}, AO Ω r → r.lookup t = some e → Ω.lookup t = some e
  | (x, y) :: r, Ω, t, e, h, k => by
    rw [lookup_cons] at k
    by_cases hx : t = x
    · subst hx; rw [if_pos rfl] at k; cases k; exact h.1
    · rw [if_neg hx] at k; exact AO.get h.2 k
theorem AF.get : ∀ {r : List Nat} {Ω : Omg} {t : Nat}, AF Ω r → r.contains t = true → Ω.lookup t = none
  | x :: r, Ω, t, h, k => by
    by_cases hx : t = x
    · subst hx; exact h.1
    · exact AF.get h.2 (by simpa [hx] using k)
class AGC (Γ : Gam) (r : outParam Gam) : Prop where
  h : AG Γ r
class AOC (Ω : Omg) (r : outParam Omg) : Prop where
  h : AO Ω r
class AFC (Ω : Omg) (r : outParam (List Nat)) : Prop where
  h : AF Ω r
theorem AGC.get {Γ r : Gam} {t : Nat} {e : Ent} [h : AGC Γ r] (k : r.lookup t = some e) : Γ.lookup t = some e := AG.get h.h k
theorem AOC.get {Ω r : Omg} {t : Nat} {e : OEnt} [h : AOC Ω r] (k : r.lookup t = some e) : Ω.lookup t = some e := AO.get h.h k
theorem AFC.get {Ω : Omg} {r : List Nat} {t : Nat} [h : AFC Ω r] (k : r.contains t = true) : Ω.lookup t = none := AF.get h.h k
end Go.Trw
