/- Own work: the rules of the calculus for memory: variables, pointers, slices, structs. -/
import Derived.Test.YthdcblpadgdamaaGreatDoorTrwOps
set_option linter.all false
namespace Go.Trw
open Go
/-! ### 1. Structs as rows of fields -/
theorem rep_of_take {α : Type} {R : RT α} {S : Nat → Prop} {w : World} {cs : List Value} {d : α} (h : R.rep S w cs d) : R.rep S w ((cs.drop 0).take R.size) d := by
  rw [List.drop_zero, List.take_of_length_le (by rw [R.len h]; exact Nat.le_refl _)]; exact h
def RNil : RT Unit where
  agg := true
  size := 0
  rep _ _ cs _ := cs = []
  len := fun h => by rw [h]; rfl
  flat := fun h v hv => by rw [h] at hv; cases hv
  one := fun h => nomatch h
  stable := fun h _ => h
def RCons {α β : Type} (R : RT α) (T : RT β) : RT (α × β) where
  agg := true
  size := R.size + T.size
  rep S w cs d := R.rep S w (cs.take R.size) d.1 ∧ T.rep S w (cs.drop R.size) d.2
  len := fun {S w cs d} h => by
    have h1 := R.len h.1
    have h2 := T.len h.2
    simp at h1 h2
    omega
  flat := fun {S w cs d} h v hv => by
    rw [← List.take_append_drop R.size cs] at hv
    rcases List.mem_append.1 hv with k | k
    · exact R.flat h.1 v k
    · exact T.flat h.2 v k
  one := fun h => nomatch h
  stable := fun h hl => ⟨R.stable h.1 hl, T.stable h.2 hl⟩
def RMap {α β : Type} (f : α → β) (R : RT β) : RT α where
  agg := R.agg
  size := R.size
  rep S w cs d := R.rep S w cs (f d)
  len := fun h => R.len h
  flat := fun h => R.flat h
  one := R.one
  stable := fun h hl => R.stable h hl
/-- A field: where it lies, and how it is asked for. -/
structure FieldOf {α β : Type} (R : RT α) (off : Nat) (Rf : RT β) (get : α → β) : Prop where
  get : ∀ {S w cs d}, R.rep S w cs d → Rf.rep S w ((cs.drop off).take Rf.size) (get d)
  le : off + Rf.size ≤ R.size
/-- A field: how it is set. -/
structure FieldSet {α β : Type} (R : RT α) (off : Nat) (Rf : RT β) (set : α → β → α) : Prop where
  set : ∀ {S w cs d fs x}, R.rep S w cs d → Rf.rep S w fs x → R.rep S w (splice cs off fs) (set d x)
  le : off + Rf.size ≤ R.size
theorem FieldOf.self {α : Type} {R : RT α} : FieldOf R 0 R id := ⟨fun h => rep_of_take h, by omega⟩
theorem FieldSet.self {α : Type} {R : RT α} : FieldSet R 0 R (fun _ x => x) :=
  ⟨fun {S w cs d fs x} h k => by
    have h1 := R.len h
    have h2 := R.len k
    have : splice cs 0 fs = fs := by simp [splice, h1, h2]
    rw [this]; exact k, by omega⟩
theorem FieldOf.head {α β : Type} {R : RT α} {T : RT β} : FieldOf (RCons R T) 0 R Prod.fst := ⟨fun h => by simpa using h.1, by simp [RCons]⟩
theorem FieldOf.tail {α β γ : Type} {R : RT α} {T : RT β} {Rf : RT γ} {off : Nat} {get : β → γ} (h : FieldOf T off Rf get) : FieldOf (RCons R T) (R.size + off) Rf (fun d => get d.2) :=
  ⟨fun {S w cs d} k => by
    have := h.get k.2
    rwa [List.drop_drop] at this, by have := h.le; simp [RCons]; omega⟩
theorem FieldOf.map {α β γ : Type} {f : α → β} {R : RT β} {Rf : RT γ} {off : Nat} {get : β → γ} (h : FieldOf R off Rf get) : FieldOf (RMap f R) off Rf (fun d => get (f d)) :=
  ⟨fun k => h.get k, h.le⟩
/-- A field of a field. -/
theorem FieldOf.comp {α β γ : Type} {R : RT α} {R1 : RT β} {R2 : RT γ} {o1 o2 : Nat} {g1 : α → β} {g2 : β → γ} (h : FieldOf R o1 R1 g1) (k : FieldOf R1 o2 R2 g2) :
    FieldOf R (o1 + o2) R2 (fun d => g2 (g1 d)) :=
  ⟨fun {S w cs d} hr => by
    have := k.get (h.get hr)
    rw [List.drop_take, List.drop_drop, List.take_take] at this
    rwa [Nat.min_eq_left (by have := k.le; omega)] at this, by have := h.le; have := k.le; omega⟩
theorem FieldSet.head {α β : Type} {R : RT α} {T : RT β} : FieldSet (RCons R T) 0 R (fun d x => (x, d.2)) :=
  ⟨fun {S w cs d fs x} h k => by
    have h2 := R.len k
    have e1 : (splice cs 0 fs).take R.size = fs := by simp [splice, ← h2]
    have e2 : (splice cs 0 fs).drop R.size = cs.drop R.size := by simp [splice, ← h2]
    exact ⟨by rw [e1]; exact k, by rw [e2]; exact h.2⟩, by simp [RCons]⟩
theorem FieldSet.tail {α β γ : Type} {R : RT α} {T : RT β} {Rf : RT γ} {off : Nat} {set : β → γ → β} (h : FieldSet T off Rf set) :
    FieldSet (RCons R T) (R.size + off) Rf (fun d x => (d.1, set d.2 x)) :=
  ⟨fun {S w cs d fs x} hr k => by
    have hl := R.len hr.1
    simp at hl
    have e1 : (splice cs (R.size + off) fs).take R.size = cs.take R.size := by
      simp only [splice, List.append_assoc]
      rw [List.take_append_of_le_length (by simp; omega), List.take_take, Nat.min_eq_left (by omega)]
    have e2 : (splice cs (R.size + off) fs).drop R.size = splice (cs.drop R.size) off fs := by
      simp only [splice, List.append_assoc]
      rw [List.drop_append_of_le_length (by simp; omega), List.drop_take, List.drop_drop]
      congr 3
      all_goals (try omega)
    exact ⟨by rw [e1]; exact hr.1, by rw [e2]; exact h.set hr.2 k⟩, by have := h.le; simp [RCons]; omega⟩
theorem FieldSet.map {α β γ : Type} {f : α → β} {R : RT β} {Rf : RT γ} {off : Nat} {set : β → γ → β} {set' : α → γ → α} (h : FieldSet R off Rf set) (he : ∀ d x, f (set' d x) = set (f d) x) : FieldSet (RMap f R) off Rf set' :=
  ⟨fun {S w cs d fs x} hr k => by show R.rep S w _ (f (set' d x)); rw [he]; exact h.set hr k, h.le⟩
theorem FieldSet.comp {α β γ : Type} {R : RT α} {R1 : RT β} {R2 : RT γ} {o1 o2 : Nat} {g1 : α → β} {s1 : α → β → α} {s2 : β → γ → β} (g : FieldOf R o1 R1 g1) (h : FieldSet R o1 R1 s1) (k : FieldSet R1 o2 R2 s2) :
    FieldSet R (o1 + o2) R2 (fun d x => s1 d (s2 (g1 d) x)) :=
  ⟨fun {S w cs d fs x} hr hx => by
    have a := k.set (g.get hr) hx
    have b := h.set hr a
    have hl := R.len hr
    have hf := R2.len hx
    have := g.le
    have := k.le
    have e : splice cs o1 (splice ((cs.drop o1).take R1.size) o2 fs) = splice cs (o1 + o2) fs := by
      apply List.ext_getElem
      · have hs1 : (splice ((cs.drop o1).take R1.size) o2 fs).length = R1.size := by
          rw [splice_length (by simp; omega)]; simp; omega
        rw [splice_length (by omega), splice_length (by omega)]
      · intro i h1 h2
        simp only [splice, List.getElem_append, List.getElem_take, List.getElem_drop, List.length_append, List.length_take, List.length_drop]
        repeat' split
        all_goals (try omega)
        all_goals (congr 1 <;> omega)
    rw [e] at b; exact b, by have := g.le; have := k.le; omega⟩
/-! ### 2. States: an object turns; a new object -/
theorem SatD.update {X : Ctx} {Γ : Gam} {Ω : Omg} {a : Act} {w w' : World} {gs : Nat → Option Value} {own : Nat → Option Nat} (h : SatD X Γ Ω a w gs own)
    {i : Nat} {v : Value} {e : OEnt} (hi : gs i = some v) (hk : Ω.lookup i ≠ none) (hf : Fut (fun b => own b = some i) w w') (he : e.holds gs v (fun b => own b = some i) (X.S own) w') :
    SatD X Γ ((i, e) :: Ω) a w' gs own where
  size := h.size
  defers := h.defers
  glob := h.glob.later (hf.later (fun b _ k => .inr (by rw [k]; rfl)) (fun _ _ k => k))
  fut := h.fut.trans hf (fun _ _ k => k) (fun b hb k => by
    obtain ⟨_, _, h3⟩ := h.ownok b i k
    rcases h3 with h3 | h3
    · exact h3
    · omega)
  olt := h.olt
  ownok b j hb := by
    obtain ⟨h1, h2, h3⟩ := h.ownok b j hb
    exact ⟨Nat.lt_of_lt_of_le h1 hf.size, h2, h3⟩
  keys j hj := by
    rw [lookup_cons]; split
    · simp
    · exact h.keys j hj
  okeys b j hj := by
    rw [lookup_cons]; split
    · simp
    · exact h.okeys b j hj
  obj j e' hj := by
    rw [lookup_cons] at hj
    by_cases hji : j = i
    · subst hji
      simp only [if_true, Option.some.injEq] at hj
      subst hj
      exact ⟨v, hi, he⟩
    · simp only [hji, if_false] at hj
      obtain ⟨v', hv, hh⟩ := h.obj j e' hj
      refine ⟨v', hv, e'.stable (fun _ _ k => k) hh (fun b hb => hf.block b (h.ownok b j hb).1 (fun k => hji ?_)) (hf.later (fun b _ k => .inr (by rw [k]; rfl)) (fun _ _ k => k))⟩
      rw [hb] at k; exact (Option.some.inj k)
  ent t e' ht := e'.mono (fun _ _ k => k) (hf.later (fun b _ k => .inr (by rw [k]; rfl)) (fun _ _ k => k)) (h.ent t e' ht)
theorem heap_push_get (w : World) (o : Obj) (b : Nat) (hb : b < w.heap.size) : (w.heap.push o)[b]? = w.heap[b]? := by
  rw [Array.getElem?_push, if_neg (by omega)]
/-- A new block, and a new object that is reached by it. -/
theorem SatD.new {X : Ctx} {Γ : Gam} {Ω : Omg} {a : Act} {w w' : World} {gs : Nat → Option Value} {own : Nat → Option Nat} (h : SatD X Γ Ω a w gs own)
    {i : Nat} {v : Value} {e : OEnt} (hi : Ω.lookup i = none) (hf : Fut (fun _ => False) w w') (hlt : w.heap.size < w'.heap.size)
    (he : ∀ own' : Nat → Option Nat, ∀ gs' : Nat → Option Value, own' w.heap.size = some i → (∀ b, own' b = some i → b = w.heap.size) → Later (X.S own) w (X.S own') w' → (∀ j x, gs j = some x → gs' j = some x) → e.holds gs' v (fun b => own' b = some i) (X.S own') w') :
    ∃ gs' own', SatD X Γ ((i, e) :: Ω) a w' gs' own' ∧ gs' i = some v ∧ (∀ j x, gs j = some x → gs' j = some x) := by
  have hgi : gs i = none := by
    cases hg : gs i with
    | none => rfl
    | some x => exact absurd hi (h.keys i (by simp [hg]))
  have hoi : ∀ b, own b ≠ some i := fun b hb => h.okeys b i hb hi
  have hon : own w.heap.size = none := by
    cases ho : own w.heap.size with
    | none => rfl
    | some j => exact absurd (h.ownok _ j ho).1 (Nat.lt_irrefl _)
  have hSw : ∀ b, b < w.heap.size → X.S (fun b => if b = w.heap.size then some i else own b) b → X.S own b := by
    intro b hb hS
    have : ¬ b = w.heap.size := by omega
    simpa [Ctx.S, this] using hS
  have hL : Later (X.S own) w (X.S (fun b => if b = w.heap.size then some i else own b)) w' := hf.later (fun _ _ k => k.elim) hSw
  have hg : ∀ j x, gs j = some x → (fun j => if j = i then some v else gs j) j = some x := by
    intro j x hx
    by_cases hji : j = i
    · subst hji; simp [hgi] at hx
    · simp [hji, hx]
  refine ⟨fun j => if j = i then some v else gs j, fun b => if b = w.heap.size then some i else own b, ?_, by simp, hg⟩
  exact {
    size := h.size
    defers := h.defers
    glob := h.glob.later hL
    fut := h.fut.trans hf (fun _ _ k => k) (fun _ _ k => k.elim)
    olt := h.olt
    ownok := fun b j hb => by
      have hw0 := h.fut.size
      by_cases hbw : b = w.heap.size
      · subst hbw
        exact ⟨hlt, fun k => by have := h.olt _ k; omega, .inr hw0⟩
      · simp only [hbw, if_false] at hb
        obtain ⟨h1, h2, h3⟩ := h.ownok b j hb
        exact ⟨by omega, h2, h3⟩
    keys := fun j hj => by
      rw [lookup_cons]; split
      · simp
      · rename_i hji
        simp only [hji, if_false] at hj
        exact h.keys j hj
    okeys := fun b j hj => by
      rw [lookup_cons]; split
      · simp
      · rename_i hji
        by_cases hbw : b = w.heap.size
        · simp only [hbw, if_true, Option.some.injEq] at hj; exact absurd hj.symm hji
        · simp only [hbw, if_false] at hj; exact h.okeys b j hj
    obj := fun j e' hj => by
      rw [lookup_cons] at hj
      by_cases hji : j = i
      · subst hji
        simp only [if_true, Option.some.injEq] at hj
        subst hj
        refine ⟨v, by simp, he _ _ (by simp) (fun b hb => ?_) hL hg⟩
        by_cases hbw : b = w.heap.size
        · exact hbw
        · simp only [hbw, if_false] at hb; exact absurd hb (hoi b)
      · simp only [hji, if_false] at hj
        obtain ⟨v', hv, hh⟩ := h.obj j e' hj
        have hB : (fun b => (if b = w.heap.size then some i else own b) = some j) = (fun b => own b = some j) := by
          funext b
          by_cases hbw : b = w.heap.size
          · subst hbw
            simp only [if_true, Option.some.injEq, hon, eq_iff_iff]
            exact ⟨fun k => absurd k.symm hji, fun k => nomatch k⟩
          · simp [hbw]
        refine ⟨v', by simp [hji, hv], ?_⟩
        rw [hB]
        exact e'.stable hg hh (fun b hb => hf.block b (h.ownok b j hb).1 (fun k => k)) hL
    ent := fun t e' ht => e'.mono hg hL (h.ent t e' ht) }
/-! ### 3. Blocks -/
theorem fut_push (w : World) (o : Obj) : Fut (fun _ => False) w { w with heap := w.heap.push o } :=
  ⟨rfl, rfl, rfl, by simp, fun b hb _ => heap_push_get w o b hb⟩
theorem run_newObj {P : Program} {w : World} {o : Obj} : (newObj o).run P w = .ok w.heap.size { w with heap := w.heap.push o } := rfl
theorem run_newVar {P : Program} {w : World} {T : TypeId} {v : Value} : (newVar T v).run P w = .ok ⟨w.heap.size, 0, none⟩ { w with heap := w.heap.push (.cells v.cells T) } := by
  simp only [newVar, newRow, run_bind, run_newObj]; rfl
section
variable {X : Ctx} {Γ : Gam} {Ω : Omg} {α β : Type} {R : RT α} {Rf : RT β} {x y : Operand} {d i off t ty T : Nat} {u : α} {pos : String} {af : Array Edge} {g : Option (Nat × Bool)}
/-- A new variable, with a value. -/
theorem SatD.newBox {a : Act} {w : World} {gs : Nat → Option Value} {own : Nat → Option Nat} (h : SatD X Γ Ω a w gs own) (hi : Ω.lookup i = none) (hd : d < X.n) {v : Value} (hv : R.val (X.S own) w v u) :
    Sat X ((d, BP i 0) :: Γ) ((i, Box R T u) :: Ω) (a.put (some d) (.pointer (some ⟨w.heap.size, 0, none⟩))) { w with heap := w.heap.push (.cells v.cells T) } := by
  obtain ⟨gs', own', hs, hg, _⟩ := h.new (i := i) (v := .pointer (some ⟨w.heap.size, 0, none⟩)) (e := Box R T u) (w' := { w with heap := w.heap.push (.cells v.cells T) }) hi (fut_push _ _) (by simp)
    (fun own' _ h1 h2 h3 _ => ⟨w.heap.size, v.cells.toList, rfl, trivial, h1, by simp, R.stable (RT.val_cells hv) h3⟩)
  exact ⟨gs', own', hs.put hd (Fut.refl _ _) ⟨w.heap.size, hg, rfl⟩⟩
theorem qq (hx : Opd Γ x (D R u)) (hd : Nat.blt d X.n = true := by rfl) (hi : Ω.lookup i = none := by first | rfl | exact AFC.get rfl) :
    ST X Γ Ω ⟨some d, .box T x, ty, pos, af, g⟩ ((d, BP i 0) :: Γ) ((i, Box R T u) :: Ω) := by
  rintro a w Q ⟨gs, own, hs⟩
  unfold Oper.wp
  have : (execOp a.eval ⟨some d, .box T x, ty, pos, af, g⟩).run X.P w = .ok (.value (.pointer (some ⟨w.heap.size, 0, none⟩))) { w with heap := w.heap.push (.cells (a.eval x).cells T) } := by
    simp only [execOp, Instr.box]
    rw [run_value, run_bind, run_newVar]; rfl
  rw [this, Oper.upon_value]
  exact hs.newBox hi (lt_of_blt hd) (hx.sat hs)
/-- A type's zero value. -/
structure ZeroOK (P : Program) (T : TypeId) {α : Type} (R : RT α) (z : α) : Prop where
  ex : ∃ zv, (P.info? T).bind (·.zero) = some zv ∧ ∀ S w, R.val S w zv z
theorem run_zeroValue {P : Program} {T : TypeId} {zv : Value} (h : (P.info? T).bind (·.zero) = some zv) (w : World) : (zeroValue T).run P w = .ok zv w := by
  cases hi : P.info? T with
  | none => simp [hi] at h
  | some i =>
    simp [hi] at h
    simp [zeroValue, typeInfo, program, bind, Sem.bind, Sem.run, hi, pure, h]
theorem qp (hz : ZeroOK X.P T R u) (hd : Nat.blt d X.n = true := by rfl) (hi : Ω.lookup i = none := by first | rfl | exact AFC.get rfl) :
    ST X Γ Ω ⟨some d, .alloc T, ty, pos, af, g⟩ ((d, BP i 0) :: Γ) ((i, Box R T u) :: Ω) := by
  rintro a w Q ⟨gs, own, hs⟩
  obtain ⟨zv, h1, h2⟩ := hz.ex
  unfold Oper.wp
  have : (execOp a.eval ⟨some d, .alloc T, ty, pos, af, g⟩).run X.P w = .ok (.value (.pointer (some ⟨w.heap.size, 0, none⟩))) { w with heap := w.heap.push (.cells zv.cells T) } := by
    simp only [execOp, Instr.alloc]
    rw [run_value, run_bind, run_zeroValue h1]
    simp only [run_bind, run_newVar]; rfl
  rw [this, Oper.upon_value]
  exact hs.newBox hi (lt_of_blt hd) (h2 _ _)
/-! ### 4. Loads, fields, stores -/
def fieldOff (P : Program) (T f : Nat) : Option (Nat × Nat) :=
  match P.underlying T with
  | some (.struct fs) => match fs[f]? with
    | some fd => match P.info? fd.type with
      | some i => some (fd.offset, i.size)
      | none => none
    | none => none
  | _ => none
theorem run_underlying {P : Program} {T : TypeId} {u : TypeDesc} (h : P.underlying T = some u) (w : World) : (underlying T).run P w = .ok u w := by
  simp [underlying, program, bind, Sem.bind, Sem.run, h, pure]
theorem run_sizeOf {P : Program} {T : TypeId} {i : TypeInfo} (h : P.info? T = some i) (w : World) : (Go.sizeOf T).run P w = .ok i.size w := by
  simp [Go.sizeOf, typeInfo, program, bind, Sem.bind, Sem.run, h, pure]
theorem run_fieldAt {P : Program} {T f off sz b o : Nat} (h : fieldOff P T f = some (off, sz + 1)) (w : World) :
    (Instr.fieldAt T (.pointer (some ⟨b, o, none⟩)) f).run P w = .ok (.pointer (some ⟨b, o + off, none⟩)) w := by
  unfold fieldOff at h
  split at h
  · rename_i fs hu
    split at h
    · rename_i fd h1
      split at h
      · rename_i i h2
        simp only [Option.some.injEq, Prod.mk.injEq] at h
        obtain ⟨h3, h4⟩ := h
        simp only [Instr.fieldAt]
        rw [run_bind, run_underlying hu]
        simp only [h1]
        rw [run_bind]
        simp only [Instr.sureAddr, pure, Sem.run]
        rw [run_bind]
        simp only [fieldPlace]
        rw [run_bind, run_sizeOf h2]
        simp [addr_add, h3, h4, Sem.run, pure]
      · cases h
    · cases h
  · cases h
theorem qx {f sz : Nat} {get : α → β} (hx : Opd Γ x (D (RPtr R) u)) (hF : fieldOff X.P T f = some (off, sz + 1)) (hf : FieldOf R off Rf get) (hd : Nat.blt d X.n = true := by rfl) :
    ST X Γ Ω ⟨some d, .fieldAddr T x f, ty, pos, af, g⟩ ((d, D (RPtr Rf) (get u)) :: Γ) Ω :=
  ST.val0 rfl hd fun a w gs own hs => by
    obtain ⟨b, o, ecs, h1, h2, h3, h4⟩ := RPtr.val_iff.1 (hx.get hs)
    refine ⟨.pointer (some ⟨b, o + off, none⟩), ?_, RPtr.val_iff.2 ⟨b, o + off, _, rfl, hf.get h2, h3, h4.part _ _⟩⟩
    simp only [execOp, h1]
    rw [run_value, run_fieldAt hF]
theorem qc {f sz o : Nat} (hx : Opd Γ x (BP i o)) (hF : fieldOff X.P T f = some (off, sz + 1)) (hd : Nat.blt d X.n = true := by rfl) :
    ST X Γ Ω ⟨some d, .fieldAddr T x f, ty, pos, af, g⟩ ((d, BP i (o + off)) :: Γ) Ω :=
  ST.val0 rfl hd fun a w gs own hs => by
    obtain ⟨b, h1, h2⟩ := hx.sat hs
    refine ⟨.pointer (some ⟨b, o + off, none⟩), ?_, ⟨b, h1, rfl⟩⟩
    simp only [execOp, h2]
    rw [run_value, run_fieldAt hF]
theorem qi (hx : Opd Γ x (D (RPtr R) u)) (hT : TyOK X.P T R) (hd : Nat.blt d X.n = true := by rfl) :
    ST X Γ Ω ⟨some d, .load T x, ty, pos, af, g⟩ ((d, D R u) :: Γ) Ω :=
  ST.val0 rfl hd fun a w gs own hs => by
    obtain ⟨b, o, ecs, h1, h2, h3, h4⟩ := RPtr.val_iff.1 (hx.get hs)
    refine ⟨if R.agg then .agg ecs.toArray else ecs.headD undef, ?_, RT.val_of h2⟩
    simp only [execOp, h1, Instr.loadAt]
    rw [run_value, run_bind]
    simp only [Instr.sureAddr, pure, Sem.run]
    rw [run_loadVar hT h2 h4]
theorem qd {o T0 : Nat} {get : α → β} (hx : Opd Γ x (BP i o)) {φ : Value → Prop} (hf : FieldOf R o Rf get) (hT : TyOK X.P T Rf) (hd : Nat.blt d X.n = true := by rfl) (hi : Ω.lookup i = some (BoxAt φ R T0 u) := by first | rfl | exact AOC.get rfl) :
    ST X Γ Ω ⟨some d, .load T x, ty, pos, af, g⟩ ((d, D Rf (get u)) :: Γ) Ω :=
  ST.val0 rfl hd fun a w gs own hs => by
    obtain ⟨b, h1, h2⟩ := hx.sat hs
    obtain ⟨v, hv, b', cs, e1, e0, e2, e3, e4⟩ := hs.obj i _ hi
    rw [h1] at hv
    simp only [Option.some.injEq] at hv
    subst hv
    simp only [Value.pointer.injEq, Option.some.injEq, Addr.mk.injEq] at e1
    obtain ⟨rfl, _⟩ := e1
    have hc := (CellsAt.of_block e3).part o Rf.size
    rw [Nat.zero_add] at hc
    refine ⟨_, ?_, RT.val_of (hf.get e4)⟩
    simp only [execOp, h2, Instr.loadAt]
    rw [run_value, run_bind]
    simp only [Instr.sureAddr, pure, Sem.run]
    rw [run_loadVar hT (hf.get e4) hc]
theorem qv {o T0 : Nat} {set : α → β → α} {z : β} (hx : Opd Γ x (BP i o)) (hy : Opd Γ y (D Rf z)) {φ : Value → Prop} (hf : FieldSet R o Rf set) (hT : TyOK X.P T Rf) (hi : Ω.lookup i = some (BoxAt φ R T0 u) := by first | rfl | exact AOC.get rfl) :
    ST X Γ Ω ⟨none, .store T x y, ty, pos, af, g⟩ Γ ((i, BoxAt φ R T0 (set u z)) :: Ω) := by
  rintro a w Q ⟨gs, own, hs⟩
  obtain ⟨b, h1, h2⟩ := hx.sat hs
  have hz := RT.val_cells (hy.get hs)
  obtain ⟨v, hv, b', cs, e1, e0, e2, e3, e4⟩ := hs.obj i _ hi
  rw [h1] at hv
  simp only [Option.some.injEq] at hv
  subst hv
  simp only [Value.pointer.injEq, Option.some.injEq, Addr.mk.injEq] at e1
  obtain ⟨rfl, _⟩ := e1
  have hl1 := Rf.len hz
  have hl2 := R.len e4
  have hle := hf.le
  obtain ⟨w', hr, hfut, hsz, hb'⟩ := run_storeCells (P := X.P) (a.eval y).cells.toList 0 o w cs e3 (by omega) (Rf.flat hz)
  have hrun : (execOp a.eval ⟨none, .store T x y, ty, pos, af, g⟩).run X.P w = .ok .skip w' := by
    simp only [execOp, h2, Instr.storeAt, run_bind]
    simp only [Instr.sureAddr, pure, Sem.run, storeVar, run_bind, hT.run_size]
    rw [if_neg (by simpa using hl1)]
    simp only [hr, Sem.run]
  unfold Oper.wp
  rw [hrun, Oper.upon_skip]
  refine ⟨gs, own, ?_⟩
  show SatD X Γ _ a w' gs own
  refine hs.update h1 (by rw [hi]; simp) (hfut.mono fun x _ hx => by subst hx; exact e2) ?_
  refine ⟨b, _, rfl, e0, e2, by simpa using hb', hf.set (R.stable e4 ?_) (Rf.stable hz ?_)⟩
  all_goals exact hfut.later (fun x _ hx => by subst hx; exact .inr (by rw [e2]; rfl)) (fun _ _ k => k)
end
end Go.Trw
