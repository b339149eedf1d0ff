/- Own work: representations of data by cells; what loads and stores do. -/
import Derived.Test.YthdcblpadgdamaaGreatDoorTrwCore
set_option linter.all false
namespace Go.Trw
open Go
/-! ### 1. Scalars -/
def inK (k : IntKind) (n : Int) : Prop := k.min ≤ n ∧ n ≤ k.max
theorem inK_wrap (k : IntKind) (n : Int) : inK k (k.wrap n) := by
  cases k <;> simp [inK, IntKind.wrap, IntKind.min, IntKind.max, IntKind.signed, IntKind.bits] <;> (try split) <;> omega
theorem wrap_of_inK {k : IntKind} {n : Int} (h : inK k n) : k.wrap n = n := by
  cases k <;> simp [inK, IntKind.wrap, IntKind.min, IntKind.max, IntKind.signed, IntKind.bits] at h ⊢ <;> (try split) <;> omega
def RInt (k : IntKind) : RT Int where
  agg := false
  size := 1
  rep _ _ cs n := cs = [.int k n] ∧ inK k n
  len := fun h => by rw [h.1]; rfl
  flat := fun h v hv => by rw [h.1] at hv; simp at hv; subst hv; rfl
  one := fun _ => rfl
  stable := fun h _ => h
def RBool : RT Bool where
  agg := false
  size := 1
  rep _ _ cs b := cs = [.bool b]
  len := fun h => by rw [h]; rfl
  flat := fun h v hv => by rw [h] at hv; simp at hv; subst hv; rfl
  one := fun _ => rfl
  stable := fun h _ => h
def maxS : Nat := 9223372036854775807
abbrev Str := List UInt8
def RStr : RT Str where
  agg := false
  size := 1
  rep _ _ cs s := cs = [.string ⟨s.toArray⟩] ∧ s.length ≤ maxS
  len := fun h => by rw [h.1]; rfl
  flat := fun h v hv => by rw [h.1] at hv; simp at hv; subst hv; rfl
  one := fun _ => rfl
  stable := fun h _ => h
theorem RInt.val_iff {k : IntKind} {S : Nat → Prop} {w : World} {v : Value} {n : Int} : (RInt k).val S w v n ↔ v = .int k n ∧ inK k n := by
  constructor
  · intro h; have := h.2 rfl; simpa [RInt] using this
  · intro h; exact ⟨(fun k => nomatch k), fun _ => ⟨by simp [h.1], h.2⟩⟩
theorem RBool.val_iff {S : Nat → Prop} {w : World} {v : Value} {b : Bool} : RBool.val S w v b ↔ v = .bool b := by
  constructor
  · intro h; have := h.2 rfl; simpa [RBool] using this
  · intro h; exact ⟨(fun k => nomatch k), fun _ => by simp [RBool, h]⟩
theorem RStr.val_iff {S : Nat → Prop} {w : World} {v : Value} {s : Str} : RStr.val S w v s ↔ v = .string ⟨s.toArray⟩ ∧ s.length ≤ maxS := by
  constructor
  · intro h; have := h.2 rfl; simpa [RStr] using this
  · intro h; exact ⟨(fun k => nomatch k), fun _ => ⟨by simp [h.1], h.2⟩⟩
/-! ### 2. Rows of cells -/
def CellsAt (w : World) (b off : Nat) (cs : List Value) : Prop := ∀ j (h : j < cs.length), w.cell? ⟨b, off + j, none⟩ = some cs[j]
theorem CellsAt.part {w : World} {b off : Nat} {cs : List Value} (h : CellsAt w b off cs) (o n : Nat) : CellsAt w b (off + o) ((cs.drop o).take n) := by
  intro j hj
  simp at hj
  have := h (o + j) (by omega)
  simp
  rw [Nat.add_assoc]; exact this
theorem CellsAt.of_block {w : World} {b T : Nat} {cs : List Value} {f : Nat × Nat} (h : w.heap[b]? = some (.cells cs.toArray T f)) : CellsAt w b 0 cs := by
  intro j hj
  simp [World.cell?, h, hj]
theorem CellsAt.congr {w w' : World} {b off : Nat} {cs : List Value} (h : CellsAt w b off cs) (hb : w'.heap[b]? = w.heap[b]?) : CellsAt w' b off cs := by
  intro j hj
  have := h j hj
  simpa [World.cell?, hb] using this
def Row {α : Type} (R : RT α) (S : Nat → Prop) (w : World) (b off : Nat) (l : List α) : Prop :=
  ∀ i (h : i < l.length), ∃ ecs, R.rep S w ecs l[i] ∧ CellsAt w b (off + i * R.size) ecs
/-- The block may not turn. -/
def Still (S : Nat → Prop) (w : World) (b : Nat) : Prop := b < w.heap.size ∧ ¬ S b
theorem Still.later {S S' : Nat → Prop} {w w' : World} {b : Nat} (h : Still S w b) (hl : Later S w S' w') : Still S' w' b :=
  ⟨Nat.lt_of_lt_of_le h.1 hl.size, fun k => h.2 (hl.less b h.1 k)⟩
theorem CellsAt.later {S S' : Nat → Prop} {w w' : World} {b off : Nat} {cs : List Value} (h : CellsAt w b off cs) (hb : Still S w b) (hl : Later S w S' w') : CellsAt w' b off cs :=
  h.congr (hl.block b hb.1 hb.2)
theorem Row.later {α : Type} {R : RT α} {S S' : Nat → Prop} {w w' : World} {b off : Nat} {l : List α} (h : Row R S w b off l) (hb : Still S w b) (hl : Later S w S' w') : Row R S' w' b off l :=
  fun i hi => let ⟨ecs, h1, h2⟩ := h i hi; ⟨ecs, R.stable h1 hl, h2.later hb hl⟩
/-- A slice. -/
def RSlice {α : Type} (R : RT α) : RT (List α) where
  agg := false
  size := 1
  rep S w cs l := ∃ ao n c, cs = [.slice ao n c] ∧ l.length = n ∧ n ≤ c ∧ n ≤ maxS ∧ (l = [] ∨ ∃ b off, ao = some ⟨b, off, none⟩ ∧ Still S w b ∧ Row R S w b off l)
  len := fun ⟨_, _, _, h, _⟩ => by rw [h]; rfl
  flat := fun ⟨_, _, _, h, _⟩ v hv => by rw [h] at hv; simp at hv; subst hv; rfl
  one := fun _ => rfl
  stable := fun ⟨ao, n, c, h1, h2, h3, h4, h5⟩ hl => ⟨ao, n, c, h1, h2, h3, h4, h5.imp id fun ⟨b, off, k1, k2, k3⟩ => ⟨b, off, k1, k2.later hl, k3.later k2 hl⟩⟩
/-- A pointer to what stays. -/
def RPtr {α : Type} (R : RT α) : RT α where
  agg := false
  size := 1
  rep S w cs d := ∃ b off ecs, cs = [.pointer (some ⟨b, off, none⟩)] ∧ R.rep S w ecs d ∧ Still S w b ∧ CellsAt w b off ecs
  len := fun ⟨_, _, _, h, _⟩ => by rw [h]; rfl
  flat := fun ⟨_, _, _, h, _⟩ v hv => by rw [h] at hv; simp at hv; subst hv; rfl
  one := fun _ => rfl
  stable := fun ⟨b, off, ecs, h1, h2, h3, h4⟩ hl => ⟨b, off, ecs, h1, R.stable h2 hl, h3.later hl, h4.later h3 hl⟩
theorem RSlice.val_iff {α : Type} {R : RT α} {S : Nat → Prop} {w : World} {v : Value} {l : List α} : (RSlice R).val S w v l ↔
    ∃ ao n c, v = .slice ao n c ∧ l.length = n ∧ n ≤ c ∧ n ≤ maxS ∧ (l = [] ∨ ∃ b off, ao = some ⟨b, off, none⟩ ∧ Still S w b ∧ Row R S w b off l) := by
  constructor
  · intro h; have := h.2 rfl; simpa [RSlice] using this
  · intro h; exact ⟨(fun k => nomatch k), fun _ => by simpa [RSlice] using h⟩
theorem RPtr.val_iff {α : Type} {R : RT α} {S : Nat → Prop} {w : World} {v : Value} {d : α} : (RPtr R).val S w v d ↔
    ∃ b off ecs, v = .pointer (some ⟨b, off, none⟩) ∧ R.rep S w ecs d ∧ Still S w b ∧ CellsAt w b off ecs := by
  constructor
  · intro h; have := h.2 rfl; simpa [RPtr] using this
  · intro h; exact ⟨(fun k => nomatch k), fun _ => by simpa [RPtr] using h⟩
/-! ### 3. Types -/
def aggDesc : TypeDesc → Bool
  | .struct _ | .array _ _ => true
  | _ => false
structure TyOK (P : Program) (T : TypeId) {α : Type} (R : RT α) : Prop where
  sz : (P.info? T).map (·.size) = some R.size
  ag : (P.underlying T).map aggDesc = some R.agg
theorem TyOK.run_size {P : Program} {T : TypeId} {α : Type} {R : RT α} (h : TyOK P T R) (w : World) : (sizeOf T).run P w = .ok R.size w := by
  have := h.sz
  cases hi : P.info? T with
  | none => simp [hi] at this
  | some i => simp [hi] at this; simp [Go.sizeOf, typeInfo, program, bind, Sem.bind, Sem.run, hi, pure, this]
theorem TyOK.run_agg {P : Program} {T : TypeId} {α : Type} {R : RT α} (h : TyOK P T R) (w : World) : (isAgg T).run P w = .ok R.agg w := by
  have := h.ag
  cases hu : P.underlying T with
  | none => simp [hu] at this
  | some u =>
    simp [hu] at this
    simp only [isAgg, underlying, program, bind, Sem.bind, Sem.run, hu, pure]
    cases u <;> simp_all [aggDesc, Sem.run]
theorem run_bind {α β : Type} (P : Program) (m : Sem α) (f : α → Sem β) (w : World) :
    (m >>= f).run P w = match m.run P w with | .ok a w' => (f a).run P w' | .halt h w' => .halt h w' := by
  show (m.bind f).run P w = _
  induction m generalizing w with
  | pure a => rfl
  | load m a k ih =>
    simp only [Sem.bind, Sem.run]
    split
    · exact ih _ _
    · split
      · exact ih _ _
      · rfl
  | store m a v k ih =>
    cases v <;> simp only [Sem.bind, Sem.run] <;> (try rfl) <;> (split <;> (try split) <;> first | rfl | exact ih _)
  | new o k ih => simp only [Sem.bind, Sem.run]; exact ih _ _
  | shape r k ih => simp only [Sem.bind, Sem.run]; exact ih _ _
  | freeze a n k ih => simp only [Sem.bind, Sem.run]; exact ih _
  | frozen a k ih => simp only [Sem.bind, Sem.run]; exact ih _ _
  | getObj r k ih => simp only [Sem.bind, Sem.run]; split <;> first | rfl | exact ih _ _
  | setObj r o k ih => simp only [Sem.bind, Sem.run]; split <;> first | rfl | exact ih _
  | choose q k ih => simp only [Sem.bind, Sem.run]; split <;> exact ih _ _
  | sys c k ih => simp only [Sem.bind, Sem.run]; exact ih _ _
  | program k ih => simp only [Sem.bind, Sem.run]; exact ih _ _
  | mark m k ih => simp only [Sem.bind, Sem.run]; exact ih _
  | halt h => rfl
theorem addr_add (b off i : Nat) : (⟨b, off, none⟩ : Addr).add i = ⟨b, off + i, none⟩ := by
  unfold Addr.add; split
  · subst_vars; rfl
  · rfl
theorem run_load {P : Program} {w : World} {a : Addr} {v : Value} (h : w.cell? a = some v) : (load a).run P w = .ok v w := by
  simp [load, Sem.run, h]
theorem run_loadCellsFrom {P : Program} {w : World} {b off : Nat} (cs : List Value) : ∀ (n i : Nat) (acc : Array Value), i + n = cs.length → CellsAt w b off cs →
    (loadCellsFrom ⟨b, off, none⟩ i n acc).run P w = .ok (acc ++ (cs.drop i).toArray) w := by
  intro n
  induction n with
  | zero =>
    intro i acc hi hc
    have : cs.drop i = [] := List.drop_eq_nil_of_le (by omega)
    simp [loadCellsFrom, pure, Sem.run, this]
  | succ n ih =>
    intro i acc hi hc
    have hlt : i < cs.length := by omega
    simp only [loadCellsFrom]
    rw [run_bind, addr_add, run_load (hc i hlt)]
    simp only []
    rw [ih (i + 1) _ (by omega) hc]
    rw [List.drop_eq_getElem_cons hlt]
    simp
theorem run_loadCells {P : Program} {w : World} {b off : Nat} {cs : List Value} (hc : CellsAt w b off cs) (n : Nat) (hn : n = cs.length) : (loadCells ⟨b, off, none⟩ n).run P w = .ok cs.toArray w := by
  unfold loadCells
  rw [run_loadCellsFrom cs n 0 #[] (by omega) hc]
  simp
theorem run_loadVar {P : Program} {w : World} {T : TypeId} {α : Type} {R : RT α} (hT : TyOK P T R) {S : Nat → Prop} {b off : Nat} {cs : List Value} {d : α} (hr : R.rep S w cs d) (hc : CellsAt w b off cs) :
    (loadVar T ⟨b, off, none⟩).run P w = .ok (if R.agg then .agg cs.toArray else cs.headD undef) w := by
  have hl := R.len hr
  unfold loadVar
  rw [run_bind, hT.run_agg]
  simp only []
  cases ha : R.agg with
  | true =>
    simp only [if_true]
    rw [run_bind]
    simp only [hT.run_size, run_bind, run_loadCells hc R.size hl.symm]
    rfl
  | false =>
    simp only [Bool.false_eq_true, if_false]
    rw [R.one ha] at hl
    obtain ⟨x, rfl⟩ := List.length_eq_one_iff.1 hl
    have := hc 0 (by simp)
    simp at this
    rw [run_load this]; rfl
/-! ### 4. Stores -/
def splice (cs : List Value) (off : Nat) (vs : List Value) : List Value := cs.take off ++ vs ++ cs.drop (off + vs.length)
theorem splice_length {cs vs : List Value} {off : Nat} (h : off + vs.length ≤ cs.length) : (splice cs off vs).length = cs.length := by
  simp [splice]; omega
theorem run_store {P : Program} {w : World} {a : Addr} {v x : Value} (hv : cellv v = true) (hc : w.cell? a = some x) (hf : w.frozen? a = false) : (store a v).run P w = .ok () (w.setCell a v) := by
  cases v <;> simp_all [store, Sem.run, cellv]
theorem run_storeCells {P : Program} {b T : Nat} : ∀ (vs : List Value) (i off : Nat) (w : World) (cs : List Value),
    w.heap[b]? = some (.cells cs.toArray T (0, 0)) → off + i + vs.length ≤ cs.length → (∀ v ∈ vs, cellv v = true) →
    ∃ w', (storeCells ⟨b, off, none⟩ vs i).run P w = .ok () w' ∧ Fut (fun x => x = b) w w' ∧ w'.heap.size = w.heap.size ∧ w'.heap[b]? = some (.cells (splice cs (off + i) vs).toArray T (0, 0)) := by
  intro vs
  induction vs with
  | nil =>
    intro i off w cs hb _ _
    refine ⟨w, rfl, Fut.refl _ _, rfl, ?_⟩
    simp [splice]; exact hb
  | cons v vs ih =>
    intro i off w cs hb hl hv
    simp at hl
    have hc : w.cell? ⟨b, off + i, none⟩ = some (cs[off + i]'(by omega)) := by
      simp [World.cell?, hb]
    have hfz : w.frozen? ⟨b, off + i, none⟩ = false := by simp [World.frozen?, hb]
    have hlt : b < w.heap.size := by
      rcases Nat.lt_or_ge b w.heap.size with h | h
      · exact h
      · simp [Array.getElem?_eq_none h] at hb
    have hb' : (w.setCell ⟨b, off + i, none⟩ v).heap[b]? = some (.cells (cs.set (off + i) v).toArray T (0, 0)) := by
      have hb2 : w.heap[b] = .cells cs.toArray T (0, 0) := by
        have := hb; rw [Array.getElem?_eq_getElem hlt] at this; simpa using this
      simp [World.setCell, Array.getElem?_modify, hlt, hb2, Array.getElem_modify]
    obtain ⟨w', hr, hf, hs, hb''⟩ := ih (i + 1) off (w.setCell ⟨b, off + i, none⟩ v) (cs.set (off + i) v) hb' (by simp; omega) (fun x hx => hv x (by simp [hx]))
    refine ⟨w', ?_, ?_, ?_, ?_⟩
    · simp only [storeCells]
      rw [run_bind, addr_add, run_store (hv v (by simp)) hc hfz]
      exact hr
    · have h1 : Fut (fun x => x = b) w (w.setCell ⟨b, off + i, none⟩ v) := by
        refine ⟨rfl, rfl, rfl, by simp [World.setCell], fun x hx hne => ?_⟩
        have : ¬ b = x := fun k => hne k.symm
        simp [World.setCell, Array.getElem?_modify, this]
      exact h1.trans hf (fun _ _ k => k) (fun _ _ k => k)
    · rw [hs]; simp [World.setCell]
    · rw [hb'']
      congr 2
      simp only [splice, List.length_cons]
      have e1 : (cs.set (off + i) v).take (off + (i + 1)) = cs.take (off + i) ++ [v] := by
        rw [show off + (i + 1) = (off + i) + 1 from by omega, List.take_succ_eq_append_getElem (by simp; omega)]
        simp [List.take_set_of_le]
      have e2 : (cs.set (off + i) v).drop (off + (i + 1) + vs.length) = cs.drop (off + i + (vs.length + 1)) := by
        rw [List.drop_set_of_lt (by omega)]
        congr 1; omega
      rw [e1, e2]; simp
end Go.Trw
