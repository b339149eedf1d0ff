/- Own work: variables of struct type of which some fields are slices of the call's own. -/
import Derived.Test.YthdcblpadgdamaaGreatDoorTrwRen
set_option linter.all false
namespace Go.Trw
open Go
def nilV : Value := .slice none 0 0
/-- Representations in which these cells hold nil slices. -/
def RNilAt {α : Type} (R : RT α) (os : List Nat) : RT α where
  agg := R.agg
  size := R.size
  rep S w cs d := R.rep S w cs d ∧ ∀ o ∈ os, cs[o]? = some nilV
  len := fun h => R.len h.1
  flat := fun h => R.flat h.1
  one := R.one
  stable := fun h hl => ⟨R.stable h.1 hl, h.2⟩
theorem RNilAt.val {α : Type} {R : RT α} {os : List Nat} {S : Nat → Prop} {w : World} {v : Value} {d : α} (h : (RNilAt R os).val S w v d) : R.val S w v d :=
  ⟨fun ha => let ⟨cs, e, hr⟩ := h.1 ha; ⟨cs, e, hr.1⟩, fun ha => (h.2 ha).1⟩
theorem Opd.ofNilAt {Γ : Gam} {x : Operand} {α : Type} {R : RT α} {os : List Nat} {d : α} (h : Opd Γ x (D (RNilAt R os) d)) : Opd Γ x (D R d) :=
  fun gs S w a ha => RNilAt.val (h gs S w a ha)
theorem FieldSet.nilAt {α β : Type} {R : RT α} {Rf : RT β} {off : Nat} {set : α → β → α} {os : List Nat} (h : FieldSet R off Rf set) (hd : os.all (fun o => Nat.blt o off || Nat.ble (off + Rf.size) o) = true) : FieldSet (RNilAt R os) off Rf set :=
  ⟨fun {S w cs d fs x} hr hx => ⟨h.set hr.1 hx, fun o ho => by
    have h1 := hr.2 o ho
    have h2 := Rf.len hx
    have h3 := R.len hr.1
    have := h.le
    have h4 := (List.all_eq_true.1 hd) o ho
    simp only [Bool.or_eq_true, Nat.blt_eq, Nat.ble_eq] at h4
    rw [← h1]
    simp only [splice]
    rcases h4 with h4 | h4
    · rw [List.append_assoc, List.getElem?_append_left (by simp; omega), List.getElem?_take_of_lt h4]
    · rw [List.getElem?_append_right (by simp; omega)]
      simp only [List.getElem?_drop, List.length_append, List.length_take]
      congr 1; omega⟩, h.le⟩
inductive NilAll (cs : List Value) : List Nat → Prop
  | nil : NilAll cs []
  | cons {o os} : cs[o]? = some nilV → NilAll cs os → NilAll cs (o :: os)
theorem NilAll.get {cs : List Value} : ∀ {os : List Nat}, NilAll cs os → ∀ o ∈ os, cs[o]? = some nilV
  | _, .nil, _, h => nomatch h
  | _, .cons h t, o, ho => by
    rcases List.mem_cons.1 ho with rfl | k
    · exact h
    · exact t.get o k
theorem ZeroOK.nilAt {P : Program} {T : TypeId} {α : Type} {R : RT α} {z : α} {cs : List Value} {os : List Nat} (h : (P.info? T).bind (·.zero) = some (.agg cs.toArray)) (hz : ZeroOK P T R z) (hR : R.agg = true) (hn : NilAll cs os) : ZeroOK P T (RNilAt R os) z := by
  obtain ⟨zv, h1, h2⟩ := hz.ex
  rw [h] at h1
  simp only [Option.some.injEq] at h1
  subst h1
  refine ⟨_, h, fun S w => ⟨fun ha => ⟨_, rfl, ?_⟩, fun ha => by have : R.agg = false := ha; rw [hR] at this; cases this⟩⟩
  obtain ⟨cs', e1, e2⟩ := (h2 S w).1 hR
  simp only [Value.agg.injEq] at e1
  subst e1
  exact ⟨by simpa using e2, fun o ho => by simpa using hn.get o ho⟩
/-- The cells, nil slices put in at these places. -/
def fillNil (cs : List Value) (ks : List Nat) : List Value := cs.mapIdx fun k v => if ks.contains k then nilV else v
theorem fillNil_length {cs : List Value} {ks : List Nat} : (fillNil cs ks).length = cs.length := by simp [fillNil]
theorem fillNil_get {cs : List Value} {ks : List Nat} {k : Nat} (h : k < (fillNil cs ks).length) : (fillNil cs ks)[k] = if ks.contains k then nilV else cs[k]'(by simpa [fillNil] using h) := by simp [fillNil]
theorem fillNil_get? {cs : List Value} {ks : List Nat} {k : Nat} : (fillNil cs ks)[k]? = cs[k]?.map fun v => if ks.contains k then nilV else v := by simp [fillNil]
theorem fillNil_congr {cs : List Value} {ks ks' : List Nat} (h : ∀ k, ks.contains k = ks'.contains k) : fillNil cs ks = fillNil cs ks' := by
  unfold fillNil; congr 1; funext k v; rw [h]
theorem fillNil_nil {cs : List Value} : fillNil cs [] = cs := by
  unfold fillNil; apply List.ext_getElem <;> simp
theorem fillNil_part {cs : List Value} {ks : List Nat} {off n : Nat} (hd : ks.all (fun o => Nat.blt o off || Nat.ble (off + n) o) = true) : ((fillNil cs ks).drop off).take n = (cs.drop off).take n := by
  apply List.ext_getElem
  · simp [fillNil_length]
  · intro i h1 h2
    simp only [List.length_take, List.length_drop, fillNil_length] at h1
    simp only [List.getElem_take, List.getElem_drop, fillNil_get]
    rw [if_neg]
    intro hc
    have := (List.all_eq_true.1 hd) (off + i) (by simpa using hc)
    simp only [Bool.or_eq_true, Nat.blt_eq, Nat.ble_eq] at this
    omega
theorem fillNil_splice {cs vs : List Value} {ks : List Nat} {off : Nat} (hle : off + vs.length ≤ cs.length) (hd : ks.all (fun o => Nat.blt o off || Nat.ble (off + vs.length) o) = true) : fillNil (splice cs off vs) ks = splice (fillNil cs ks) off vs := by
  apply List.ext_getElem
  · rw [fillNil_length, splice_length hle, splice_length (by rw [fillNil_length]; exact hle), fillNil_length]
  · intro i h1 h2
    rw [fillNil_get]
    rw [fillNil_length, splice_length hle] at h1
    by_cases hc : ks.contains i = true
    · rw [if_pos hc]
      have := (List.all_eq_true.1 hd) i (by simpa using hc)
      simp only [Bool.or_eq_true, Nat.blt_eq, Nat.ble_eq] at this
      simp only [splice, List.getElem_append, List.getElem_take, List.getElem_drop, List.length_append, List.length_take, fillNil_get, fillNil_length]
      repeat' split
      all_goals (try omega)
      all_goals (try rfl)
      all_goals (rename_i hn; exfalso; apply hn; first | exact hc | (rw [show off + vs.length + (i - (min off cs.length + vs.length)) = i from by omega]; exact hc))
    · rw [if_neg hc]
      simp only [splice, List.getElem_append, List.getElem_take, List.getElem_drop, List.length_append, List.length_take, fillNil_get, fillNil_length]
      repeat' split
      all_goals (try omega)
      all_goals (try rfl)
      all_goals (rename_i hn; exfalso; apply hc; first | exact hn | (rw [show off + vs.length + (i - (min off cs.length + vs.length)) = i from by omega] at hn; exact hn))
theorem splice_one {cs : List Value} {o : Nat} {v : Value} (h : o < cs.length) : splice cs o [v] = cs.set o v := by
  apply List.ext_getElem
  · rw [splice_length (by simp; omega)]; simp
  · intro k h1 h2
    simp only [List.length_set] at h2
    simp only [splice, List.getElem_append, List.getElem_take, List.getElem_drop, List.length_append, List.length_take, List.length_cons, List.length_nil, List.getElem_set]
    repeat' split
    all_goals (try omega)
    all_goals (try rfl)
    · simp
    · congr 1; omega
theorem fillNil_set {cs : List Value} {ks : List Nat} {o : Nat} {v : Value} (h : ks.contains o = true) : fillNil (cs.set o v) ks = fillNil cs ks := by
  apply List.ext_getElem
  · simp [fillNil_length]
  · intro i h1 h2
    rw [fillNil_get, fillNil_get]
    by_cases hio : i = o
    · subst hio; rw [if_pos h, if_pos h]
    · rw [List.getElem_set_ne (fun e => hio e.symm)]
abbrev Holes := List (Nat × Ent)
def HolesAt (gs : Nat → Option Value) (S : Nat → Prop) (w : World) (cs : List Value) (hs : Holes) : Prop := ∀ o e, hs.lookup o = some e → ∃ x, cs[o]? = some x ∧ e.sem gs S w x
/-- A variable of which some cells are known otherwise than by data (its data: nil there). -/
def BoxH {α : Type} (φ : Value → Prop) (R : RT α) (T : TypeId) (d : α) (hs : Holes) : OEnt where
  holds gs v B S w := ∃ b cs, v = .pointer (some ⟨b, 0, none⟩) ∧ φ v ∧ B b ∧ w.heap[b]? = some (.cells (List.toArray cs) T (0, 0)) ∧ R.rep S w (fillNil cs (hs.map Prod.fst)) d ∧ HolesAt gs S w cs hs
  stable := fun hg ⟨b, cs, h1, h0, h2, h3, h4, h5⟩ hb hr => ⟨b, cs, h1, h0, h2, (hb b h2).trans h3, R.stable h4 hr, fun o e he => let ⟨x, k1, k2⟩ := h5 o e he; ⟨x, k1, e.mono hg hr k2⟩⟩
inductive HKeep (ks : List Nat) : Holes → Prop
  | nil : HKeep ks []
  | cons {o e hs} : Keeps ks e → HKeep ks hs → HKeep ks ((o, e) :: hs)
theorem HKeep.get {ks : List Nat} : ∀ {hs : Holes} {o : Nat} {e : Ent}, HKeep ks hs → hs.lookup o = some e → Keeps ks e
  | _, _, _, .nil, h => by simp at h
  | _, o, e, .cons (o := o') h t, k => by
    rw [lookup_cons] at k
    by_cases ho : o = o'
    · rw [if_pos ho] at k; simp only [Option.some.injEq] at k; subst k; exact h
    · rw [if_neg ho] at k; exact t.get k
theorem KeepsO.boxH {ks : List Nat} {α : Type} {φ : Value → Prop} {R : RT α} {T : TypeId} {d : α} {hs : Holes} (h : HKeep ks hs) : KeepsO ks (BoxH φ R T d hs) :=
  fun gs v B S w ⟨b, cs, h1, h0, h2, h3, h4, h5⟩ => ⟨b, cs, h1, h0, h2, h3, h4, fun o e he => let ⟨x, k1, k2⟩ := h5 o e he; ⟨x, k1, h.get he _ _ _ _ k2⟩⟩
inductive HRen (σ : List (Nat × Nat)) : Holes → Holes → Prop
  | nil : HRen σ [] []
  | cons {o e e' hs hs'} : Ren σ e e' → HRen σ hs hs' → HRen σ ((o, e) :: hs) ((o, e') :: hs')
theorem HRen.keys {σ : List (Nat × Nat)} : ∀ {hs hs' : Holes}, HRen σ hs hs' → hs.map Prod.fst = hs'.map Prod.fst
  | _, _, .nil => rfl
  | _, _, .cons _ t => by simp [t.keys]
theorem HRen.get {σ : List (Nat × Nat)} : ∀ {hs hs' : Holes} {o : Nat} {e' : Ent}, HRen σ hs hs' → hs'.lookup o = some e' → ∃ e, hs.lookup o = some e ∧ Ren σ e e'
  | _, _, _, _, .nil, h => by simp at h
  | _, _, o, e, .cons (o := o') h t, k => by
    rw [lookup_cons] at k ⊢
    by_cases ho : o = o'
    · rw [if_pos ho] at k ⊢; simp only [Option.some.injEq] at k; subst k; exact ⟨_, rfl, h⟩
    · rw [if_neg ho] at k ⊢; exact t.get k
theorem RenO.boxH {σ : List (Nat × Nat)} {α : Type} {φ : Value → Prop} {R : RT α} {T : TypeId} {d : α} {hs hs' : Holes} (h : HRen σ hs hs') : RenO σ (BoxH φ R T d hs) (BoxH φ R T d hs') :=
  fun gs v B S w ⟨b, cs, h1, h0, h2, h3, h4, h5⟩ => ⟨b, cs, h1, h0, h2, h3, h.keys ▸ h4, fun o e' he => by
    obtain ⟨e, k1, k2⟩ := h.get he
    obtain ⟨x, k3, k4⟩ := h5 o e k1
    exact ⟨x, k3, k2 _ _ _ _ k4⟩⟩
section
variable {X : Ctx} {Γ : Gam} {Ω : Omg} {α β : Type} {R : RT α} {Rf : RT β} {x y z : Operand} {d i j off t t2 ty T E o T0 : Nat} {u : α} {pos : String} {af : Array Edge} {g : Option (Nat × Bool)} {φ : Value → Prop} {hs hs' : Holes} {e : Ent}
/-- The block of a variable. -/
theorem boxH_block {a : Act} {w : World} {gs : Nat → Option Value} {own : Nat → Option Nat} (hs0 : SatD X Γ Ω a w gs own) {v : Value} (hv : (BP i off).sem gs (X.S own) w v) (hi : Ω.lookup i = some (BoxH φ R T0 u hs)) :
    ∃ b cs, v = .pointer (some ⟨b, off, none⟩) ∧ gs i = some (.pointer (some ⟨b, 0, none⟩)) ∧ φ (.pointer (some ⟨b, 0, none⟩)) ∧ own b = some i ∧ w.heap[b]? = some (.cells (List.toArray cs) T0 (0, 0)) ∧ R.rep (X.S own) w (fillNil cs (hs.map Prod.fst)) u ∧ HolesAt gs (X.S own) w cs hs := by
  obtain ⟨b, h1, h2⟩ := hv
  obtain ⟨v', hv', b', cs, e1, e0, e2, e3, e4, e5⟩ := hs0.obj i _ hi
  rw [h1] at hv'
  simp only [Option.some.injEq] at hv'
  subst hv'
  simp only [Value.pointer.injEq, Option.some.injEq, Addr.mk.injEq] at e1
  obtain ⟨rfl, _⟩ := e1
  exact ⟨b, cs, h2, h1, e0, e2, e3, e4, e5⟩
/-- A load from where there are data. -/
theorem vr {get : α → β} (hx : Opd Γ x (BP i o)) (hf : FieldOf R o Rf get) (hT : TyOK X.P T Rf) (hd : Nat.blt d X.n = true := by rfl) (hi : Ω.lookup i = some (BoxH φ R T0 u hs) := by first | rfl | exact AOC.get rfl) (hdis : (hs.map Prod.fst).all (fun k => Nat.blt k o || Nat.ble (o + Rf.size) k) = true := by rfl) :
    ST X Γ Ω ⟨some d, .load T x, ty, pos, af, g⟩ ((d, D Rf (get u)) :: Γ) Ω :=
  ST.val0 rfl hd fun a w gs own hs0 => by
    obtain ⟨b, cs, h2, h1, e0, e2, e3, e4, e5⟩ := boxH_block hs0 (hx.sat hs0) hi
    have hr := hf.get e4
    rw [fillNil_part hdis] at hr
    have hc := (CellsAt.of_block e3).part o Rf.size
    rw [Nat.zero_add] at hc
    refine ⟨_, ?_, RT.val_of hr⟩
    simp only [execOp, h2, Instr.loadAt]
    rw [run_value, run_bind]
    simp only [Instr.sureAddr, pure, Sem.run]
    rw [run_loadVar hT hr hc]
/-- A load from where something else is known. -/
theorem qJ {R1 : RT β} (hx : Opd Γ x (BP i o)) (hT : TyOK X.P T R1) (hd : Nat.blt d X.n = true := by rfl) (hi : Ω.lookup i = some (BoxH φ R T0 u hs) := by first | rfl | exact AOC.get rfl) (ho : hs.lookup o = some e := by rfl) (h1 : R1.agg = false := by rfl) :
    ST X Γ Ω ⟨some d, .load T x, ty, pos, af, g⟩ ((d, e) :: Γ) Ω :=
  ST.val0 rfl hd fun a w gs own hs0 => by
    obtain ⟨b, cs, h2, _, e0, e2, e3, e4, e5⟩ := boxH_block hs0 (hx.sat hs0) hi
    obtain ⟨v, k1, k2⟩ := e5 o e ho
    refine ⟨v, ?_, k2⟩
    simp only [execOp, h2, Instr.loadAt]
    rw [run_value, run_bind]
    simp only [Instr.sureAddr, pure, Sem.run]
    unfold loadVar
    rw [run_bind, hT.run_agg]
    simp only [h1, Bool.false_eq_true, if_false]
    rw [run_load (v := v) (by simp [World.cell?, e3, k1])]
theorem hole_keep {a : Act} {w w' : World} {gs : Nat → Option Value} {S : Nat → Prop} {cs : List Value} {o : Nat} {vs : List Value} (hle : o + vs.length ≤ cs.length) (hL : Later S w S w') (h : HolesAt gs S w cs hs) (hdis : ∀ k e, hs.lookup k = some e → k < o ∨ o + vs.length ≤ k) : HolesAt gs S w' (splice cs o vs) hs := by
  intro k e he
  obtain ⟨x, k1, k2⟩ := h k e he
  refine ⟨x, ?_, e.mono (fun _ _ k => k) hL k2⟩
  rw [← k1]
  simp only [splice]
  rcases hdis k e he with h4 | h4
  · rw [List.append_assoc, List.getElem?_append_left (by simp; omega), List.getElem?_take_of_lt h4]
  · rw [List.getElem?_append_right (by simp; omega)]
    simp only [List.getElem?_drop, List.length_append, List.length_take]
    congr 1; omega
theorem lookup_key {hs : Holes} {k : Nat} {e : Ent} (h : hs.lookup k = some e) : k ∈ hs.map Prod.fst := by
  have := (lookup_mem (l := hs) (i := k)).2 (by rw [h]; simp)
  simpa using this
/-- A store to where there are data. -/
theorem vd {set : α → β → α} {z : β} (hx : Opd Γ x (BP i o)) (hy : Opd Γ y (D Rf z)) (hf : FieldSet R o Rf set) (hT : TyOK X.P T Rf) (hi : Ω.lookup i = some (BoxH φ R T0 u hs) := by first | rfl | exact AOC.get rfl) (hdis : (hs.map Prod.fst).all (fun k => Nat.blt k o || Nat.ble (o + Rf.size) k) = true := by rfl) :
    ST X Γ Ω ⟨none, .store T x y, ty, pos, af, g⟩ Γ ((i, BoxH φ R T0 (set u z) hs) :: Ω) := by
  rintro a w Q ⟨gs, own, hs0⟩
  have hz := RT.val_cells (hy.get hs0)
  obtain ⟨b, cs, h2, h1, e0, e2, e3, e4, e5⟩ := boxH_block hs0 (hx.sat hs0) hi
  have hl1 := Rf.len hz
  have hl2 := R.len e4
  rw [fillNil_length] at hl2
  have hle := hf.le
  obtain ⟨w', hr, hfut, hsz, hb'⟩ := run_storeCells (P := X.P) (a.eval y).cells.toList 0 o w cs e3 (by omega) (Rf.flat hz)
  have hrun : (execOp a.eval ⟨none, .store T x y, ty, pos, af, g⟩).run X.P w = .ok .skip w' := by
    simp only [execOp, h2, Instr.storeAt, run_bind]
    simp only [Instr.sureAddr, pure, Sem.run, storeVar, run_bind, hT.run_size]
    rw [if_neg (by simpa using hl1)]
    simp only [hr, Sem.run]
  unfold Oper.wp
  rw [hrun, Oper.upon_skip]
  refine ⟨gs, own, ?_⟩
  show SatD X Γ _ a w' gs own
  have hL : Later (X.S own) w (X.S own) w' := hfut.later (fun x _ hx => by subst hx; exact .inr (by rw [e2]; rfl)) (fun _ _ k => k)
  refine hs0.update h1 (by rw [hi]; simp) (hfut.mono fun x _ hx => by subst hx; exact e2) ?_
  refine ⟨b, _, rfl, e0, e2, by simpa using hb', ?_, ?_⟩
  · rw [fillNil_splice (by omega) (by rw [hl1]; exact hdis)]
    exact hf.set (R.stable e4 hL) (Rf.stable hz hL)
  · refine hole_keep (a := a) (by omega) hL e5 fun k e he => ?_
    have := (List.all_eq_true.1 hdis) k (lookup_key he)
    simp only [Bool.or_eq_true, Nat.blt_eq, Nat.ble_eq] at this
    omega
/-- A store of a slice of the call's own; the hole is there, or it opens. -/
theorem vY {set : α → List β → α} {R1 : RT (List β)} (hx : Opd Γ x (BP i o)) (hy : Opd Γ y (OS j)) {l : List β} (hf : FieldSet R o (RSlice Rf) set) (hT : TyOK X.P T R1) (h1 : R1.size = 1) (hh : (hs.filter fun p => p.1 != o) = hs') (hj : Ω.lookup j = some (OwnSl Rf E l) := by first | rfl | exact AOC.get rfl) (hi : Ω.lookup i = some (BoxH φ R T0 u hs) := by first | rfl | exact AOC.get rfl) :
    ST X Γ Ω ⟨none, .store T x y, ty, pos, af, g⟩ Γ ((i, BoxH φ R T0 (set u []) ((o, OS j) :: hs')) :: Ω) := by
  subst hh
  rintro a w Q ⟨gs, own, hs0⟩
  obtain ⟨b, cs, h2, hg1, e0, e2, e3, e4, e5⟩ := boxH_block hs0 (hx.sat hs0) hi
  have hv : gs j = some (a.eval y) := hy.sat hs0
  obtain ⟨vj, hvj, xs, hrow, _⟩ := hs0.obj j _ hj
  rw [hv] at hvj
  simp only [Option.some.injEq] at hvj
  have hcv : cellv (a.eval y) = true := by
    rw [hvj]
    rcases hrow.2 with ⟨h, _⟩ | ⟨_, _, _, h, _⟩ <;> rw [h] <;> rfl
  have hcl : (a.eval y).cells = #[a.eval y] := cellv_cells hcv
  have hl2 := R.len e4
  rw [fillNil_length] at hl2
  have hle := hf.le
  have hsz1 : (RSlice Rf).size = 1 := rfl
  obtain ⟨w', hr, hfut, hsz, hb'⟩ := run_storeCells (P := X.P) [a.eval y] 0 o w cs e3 (by simp; omega) (fun v hv => by simp at hv; subst hv; exact hcv)
  have hrun : (execOp a.eval ⟨none, .store T x y, ty, pos, af, g⟩).run X.P w = .ok .skip w' := by
    simp only [execOp, h2, Instr.storeAt, run_bind]
    simp only [Instr.sureAddr, pure, Sem.run, storeVar, run_bind, hT.run_size, hcl, h1]
    rw [if_neg (by simp)]
    simp only [hr, Sem.run]
  unfold Oper.wp
  rw [hrun, Oper.upon_skip]
  refine ⟨gs, own, ?_⟩
  show SatD X Γ _ a w' gs own
  have hL : Later (X.S own) w (X.S own) w' := hfut.later (fun x _ hx => by subst hx; exact .inr (by rw [e2]; rfl)) (fun _ _ k => k)
  refine hs0.update hg1 (by rw [hi]; simp) (hfut.mono fun x _ hx => by subst hx; exact e2) ?_
  have hsp : splice cs (o + 0) [a.eval y] = cs.set o (a.eval y) := splice_one (by omega)
  rw [hsp] at hb'
  refine ⟨b, cs.set o (a.eval y), rfl, e0, e2, hb', ?_, ?_⟩
  · have hn : (RSlice Rf).rep (X.S own) w' [nilV] [] := ⟨none, 0, 0, rfl, rfl, Nat.le_refl _, Nat.zero_le _, .inl rfl⟩
    have h5 := hf.set (R.stable e4 hL) hn
    have : fillNil (cs.set o (a.eval y)) (((o, OS j) :: hs.filter fun p => p.1 != o).map Prod.fst) = splice (fillNil cs (hs.map Prod.fst)) o [nilV] := by
      rw [splice_one (by rw [fillNil_length]; omega)]
      apply List.ext_getElem
      · simp [fillNil_length]
      · intro k h1 h2
        have hk : k < cs.length := by simpa [fillNil_length] using h1
        rw [fillNil_get]
        have hkey : (((o, OS j) :: hs.filter fun p => p.1 != o).map Prod.fst).contains k = (k == o || (hs.map Prod.fst).contains k) := by
          simp only [List.map_cons, List.contains_cons]
          by_cases hko : k = o
          · simp [hko]
          · have : (k == o) = false := by simpa using hko
            simp only [this, Bool.false_or]
            rw [Bool.eq_iff_iff]
            simp only [List.contains_iff_mem, List.mem_map, List.mem_filter]
            constructor
            · rintro ⟨p, ⟨h1, _⟩, h3⟩; exact ⟨p, h1, h3⟩
            · rintro ⟨p, h1, h3⟩; exact ⟨p, ⟨h1, by rw [h3]; simpa using hko⟩, h3⟩
        rw [hkey]
        by_cases hko : k = o
        · subst hko; simp
        · have hb : (k == o) = false := by simpa using hko
          have hko' : ¬ o = k := fun e => hko e.symm
          simp only [hb, Bool.false_or, List.getElem_set_ne hko', fillNil_get]
    rw [this]; exact h5
  · intro k e' he
    rw [lookup_cons] at he
    by_cases hko : k = o
    · subst hko
      simp only [if_true, Option.some.injEq] at he
      subst he
      exact ⟨a.eval y, by rw [List.getElem?_set_self (by omega)], hv⟩
    · rw [if_neg hko] at he
      have hlk : ∀ {l : Holes}, (l.filter fun p => p.1 != o).lookup k = some e' → l.lookup k = some e' := by
        intro l
        induction l with
        | nil => intro h; exact h
        | cons p l ih =>
          intro h
          rw [List.filter_cons] at h
          rw [lookup_cons]
          by_cases hp : p.1 = o
          · rw [if_neg (by simpa using hp)] at h
            have : ¬ k = p.1 := fun e => hko (e.trans hp)
            rw [if_neg this]; exact ih h
          · rw [if_pos (by simpa using hp), lookup_cons] at h
            by_cases hk : k = p.1
            · rw [if_pos hk] at h ⊢; exact h
            · rw [if_neg hk] at h ⊢; exact ih h
      obtain ⟨x', k1, k2⟩ := e5 k e' (hlk he)
      exact ⟨x', by rw [List.getElem?_set_ne (fun e => hko e.symm)]; exact k1, e'.mono (fun _ _ k => k) hL k2⟩
/-- An object seen otherwise. -/
theorem SatD.recast {a : Act} {w : World} {gs : Nat → Option Value} {own : Nat → Option Nat} {e e' : OEnt} (h : SatD X Γ Ω a w gs own) (hi : Ω.lookup i = some e) (hk : ∀ v, gs i = some v → e.holds gs v (fun b => own b = some i) (X.S own) w → e'.holds gs v (fun b => own b = some i) (X.S own) w) : SatD X Γ ((i, e') :: Ω) a w gs own :=
  { h with
    keys := fun k hk' => by
      rw [lookup_cons]; split
      · simp
      · exact h.keys k hk'
    okeys := fun b k hb => by
      rw [lookup_cons]; split
      · simp
      · exact h.okeys b k hb
    obj := fun k e2 hk2 => by
      rw [lookup_cons] at hk2
      by_cases hki : k = i
      · subst hki
        simp only [if_true, Option.some.injEq] at hk2
        subst hk2
        obtain ⟨v, h1, h2⟩ := h.obj k e hi
        exact ⟨v, h1, hk v h1 h2⟩
      · rw [if_neg hki] at hk2
        exact h.obj k e2 hk2 }
/-- A whole value, of which some cells are known to be nil, is stored. -/
theorem vl {os : List Nat} {z : α} (hx : Opd Γ x (BP i 0)) (hy : Opd Γ y (D (RNilAt R os) z)) (hT : TyOK X.P T R) (hi : Ω.lookup i = some (BoxAt φ R T0 u) := by first | rfl | exact AOC.get rfl) :
    ST X Γ Ω ⟨none, .store T x y, ty, pos, af, g⟩ Γ ((i, BoxH φ (RNilAt R os) T0 z []) :: Ω) := by
  rintro a w Q ⟨gs, own, hs0⟩
  obtain ⟨b, h1, h2⟩ := hx.sat hs0
  have hz := RT.val_cells (hy.get hs0)
  obtain ⟨v, hv, b', cs, e1, e0, e2, e3, e4⟩ := hs0.obj i _ hi
  rw [h1] at hv
  simp only [Option.some.injEq] at hv
  subst hv
  simp only [Value.pointer.injEq, Option.some.injEq, Addr.mk.injEq] at e1
  obtain ⟨rfl, _⟩ := e1
  have hl1 := R.len hz.1
  have hl2 := R.len e4
  obtain ⟨w', hr, hfut, hsz, hb'⟩ := run_storeCells (P := X.P) (a.eval y).cells.toList 0 0 w cs e3 (by omega) (R.flat hz.1)
  have hrun : (execOp a.eval ⟨none, .store T x y, ty, pos, af, g⟩).run X.P w = .ok .skip w' := by
    simp only [execOp, h2, Instr.storeAt, run_bind]
    simp only [Instr.sureAddr, pure, Sem.run, storeVar, run_bind, hT.run_size]
    rw [if_neg (by simpa using hl1)]
    simp only [hr, Sem.run]
  unfold Oper.wp
  rw [hrun, Oper.upon_skip]
  refine ⟨gs, own, ?_⟩
  show SatD X Γ _ a w' gs own
  have hL : Later (X.S own) w (X.S own) w' := hfut.later (fun x _ hx => by subst hx; exact .inr (by rw [e2]; rfl)) (fun _ _ k => k)
  refine hs0.update h1 (by rw [hi]; simp) (hfut.mono fun x _ hx => by subst hx; exact e2) ?_
  have hsp : splice cs (0 + 0) (a.eval y).cells.toList = (a.eval y).cells.toList := by
    have : (a.eval y).cells.size = cs.length := by rw [← Array.length_toList, hl1, hl2]
    simp [splice, this]
  rw [hsp] at hb'
  refine ⟨b, (a.eval y).cells.toList, rfl, e0, e2, hb', ?_, fun o e he => nomatch he⟩
  show (RNilAt R os).rep _ _ (fillNil _ []) z
  rw [fillNil_nil]
  exact (RNilAt R os).stable hz hL
/-- A nil slice in a variable becomes one of the call's own. -/
theorem Sat.open {a : Act} {w : World} {os : List Nat} (j E : Nat) (Re : RT β) (hi : Ω.lookup i = some (BoxH φ (RNilAt R (o :: os)) T0 u hs)) (hj : Ω.lookup j = none) (hij : Nat.beq i j = false) (ho : (hs.map Prod.fst).contains o = false) (h : Sat X Γ Ω a w) :
    Sat X Γ ((i, BoxH φ (RNilAt R os) T0 u ((o, OS j) :: hs)) :: (j, OwnSl Re E []) :: Ω) a w := by
  obtain ⟨gs, own, hs0⟩ := h
  obtain ⟨gs', own', h1, h2, h3⟩ := hs0.turn (j := j) (v' := nilV) (e := OwnSl Re E []) (w' := w) none hj (fun i h => nomatch h) (Fut.refl _ _) (fun own' _ _ _ _ _ => ⟨[], World.ownsRow_nil _ _ _ _, fun k hk => (by simp [Value.ownBlock, nilV] at hk), fun i hi => absurd hi (Nat.not_lt_zero i)⟩)
  have hne : ¬ i = j := by intro e; subst e; simp at hij
  refine ⟨gs', own', h1.recast (i := i) (e := BoxH φ (RNilAt R (o :: os)) T0 u hs) ?_ ?_⟩
  · show List.lookup i ((j, OwnSl Re E []) :: Ω) = _
    rw [lookup_cons, if_neg hne]; exact hi
  · rintro v hv ⟨b, cs, e1, e0, e2, e3, e4, e5⟩
    have hno : (fillNil cs (hs.map Prod.fst))[o]? = some nilV := e4.2 o (by simp)
    have hco : cs[o]? = some nilV := by
      rw [fillNil_get?, ho] at hno
      simpa using hno
    refine ⟨b, cs, e1, e0, e2, e3, ?_, ?_⟩
    · have : fillNil cs (((o, OS j) :: hs).map Prod.fst) = fillNil cs (hs.map Prod.fst) := by
        apply List.ext_getElem
        · rw [fillNil_length, fillNil_length]
        · intro k h1 h2
          rw [fillNil_get, fillNil_get]
          by_cases hko : k = o
          · subst hko
            have : k < cs.length := by rw [fillNil_length] at h1; exact h1
            rw [List.getElem?_eq_getElem this] at hco
            simp only [Option.some.injEq] at hco
            rw [if_pos (show (List.map Prod.fst ((k, OS j) :: hs)).contains k = true by simp)]
            split
            · rfl
            · exact hco.symm
          · have : (k == o) = false := by simpa using hko
            have hc : (List.map Prod.fst ((o, OS j) :: hs)).contains k = (List.map Prod.fst hs).contains k := by simp only [List.map_cons, List.contains_cons, this, Bool.false_or]
            rw [hc]
      rw [this]
      exact ⟨e4.1, fun k hk => e4.2 k (by simp [hk])⟩
    · intro k e he
      rw [lookup_cons] at he
      by_cases hko : k = o
      · subst hko
        simp only [if_true, Option.some.injEq] at he
        subst he
        exact ⟨nilV, hco, h2⟩
      · rw [if_neg hko] at he; exact e5 k e he
/-- .. and no cell is known to be nil any more. -/
theorem Sat.openEnd {a : Act} {w : World} {os : List Nat} (hi : Ω.lookup i = some (BoxH φ (RNilAt R os) T0 u hs)) (h : Sat X Γ Ω a w) : Sat X Γ ((i, BoxH φ R T0 u hs) :: Ω) a w := by
  obtain ⟨gs, own, hs0⟩ := h
  exact ⟨gs, own, hs0.recast hi fun v hv ⟨b, cs, e1, e0, e2, e3, e4, e5⟩ => ⟨b, cs, e1, e0, e2, e3, e4.1, e5⟩⟩
/-- A variable, all of it known by data. -/
theorem Sat.asBox {a : Act} {w : World} (hi : Ω.lookup i = some (BoxH φ R T0 u [])) (h : Sat X Γ Ω a w) : Sat X Γ ((i, BoxAt φ R T0 u) :: Ω) a w := by
  obtain ⟨gs, own, hs0⟩ := h
  exact ⟨gs, own, hs0.recast hi fun v hv ⟨b, cs, e1, e0, e2, e3, e4, e5⟩ => ⟨b, cs, e1, e0, e2, e3, by simpa [fillNil_nil] using e4⟩⟩
theorem Sat.asHole {a : Act} {w : World} (hi : Ω.lookup i = some (BoxAt φ R T0 u)) (h : Sat X Γ Ω a w) : Sat X Γ ((i, BoxH φ R T0 u []) :: Ω) a w := by
  obtain ⟨gs, own, hs0⟩ := h
  exact ⟨gs, own, hs0.recast hi fun v hv ⟨b, cs, e1, e0, e2, e3, e4⟩ => ⟨b, cs, e1, e0, e2, e3, by simpa [fillNil_nil] using e4, fun o e he => nomatch he⟩⟩
/-- A slice of the call's own that lies in a variable is let go. -/
theorem Sat.freezeH {a : Act} {w : World} {ts : List Nat} {Re : RT β} {l : List β} {set : α → List β → α} (hj : Ω.lookup j = some (OwnSl Re E l)) (hi : Ω.lookup i = some (BoxH φ R T0 u hs)) (hij : Nat.beq i j = false) (ho : hs.lookup o = some (OS j)) (hf : FieldSet R o (RSlice Re) set) (hh : (hs.filter fun p => p.1 != o) = hs') (ht : ∀ t ∈ ts, Γ.lookup t = some (OS j)) (h : Sat X Γ Ω a w) :
    Sat X (ts.map (fun t => (t, D (RSlice Re) l)) ++ Γ) ((i, BoxH φ R T0 (set u l) hs') :: (j, OEnt.dead) :: Ω) a w := by
  subst hh
  obtain ⟨gs, own, hs0⟩ := h
  obtain ⟨ow2, h1, h2⟩ := hs0.freeze hj ht
  have hne : ¬ i = j := by intro e; subst e; simp at hij
  refine ⟨gs, ow2, h1.recast (i := i) (e := BoxH φ R T0 u hs) ?_ ?_⟩
  · rw [lookup_cons, if_neg hne]; exact hi
  · rintro v hv ⟨b, cs, e1, e0, e2, e3, e4, e5⟩
    obtain ⟨x, k1, k2⟩ := e5 o _ ho
    have hx : gs j = some x := k2
    have hval := RT.val_cells (h2 x hx)
    have hcx : x.cells = #[x] := by
      obtain ⟨_, _, _, hsl, _⟩ := RSlice.val_iff.1 (h2 x hx)
      subst hsl; rfl
    rw [hcx] at hval
    have hle := hf.le
    have hl2 := R.len e4
    rw [fillNil_length] at hl2
    have hsz1 : (RSlice Re).size = 1 := rfl
    refine ⟨b, cs, e1, e0, e2, e3, ?_, ?_⟩
    · have h5 := hf.set e4 hval
      have : fillNil cs ((hs.filter fun p => p.1 != o).map Prod.fst) = splice (fillNil cs (hs.map Prod.fst)) o [x] := by
        rw [splice_one (by rw [fillNil_length]; omega)]
        apply List.ext_getElem
        · simp [fillNil_length]
        · intro k h1 h2
          have hk : k < cs.length := by simpa [fillNil_length] using h1
          rw [fillNil_get]
          have hkey : ((hs.filter fun p => p.1 != o).map Prod.fst).contains k = (k != o && (hs.map Prod.fst).contains k) := by
            rw [Bool.eq_iff_iff]
            simp only [List.contains_iff_mem, List.mem_map, List.mem_filter, Bool.and_eq_true, bne_iff_ne, ne_eq]
            constructor
            · rintro ⟨p, ⟨h1, h2⟩, h3⟩; exact ⟨by rw [← h3]; exact h2, p, h1, h3⟩
            · rintro ⟨h0, p, h1, h3⟩; exact ⟨p, ⟨h1, by rw [h3]; exact h0⟩, h3⟩
          rw [hkey]
          by_cases hko : k = o
          · subst hko
            rw [List.getElem?_eq_getElem hk] at k1
            simp only [Option.some.injEq] at k1
            simp [k1]
          · have hko' : ¬ o = k := fun e => hko e.symm
            have hb : (k != o) = true := by simpa using hko
            simp only [hb, Bool.true_and, List.getElem_set_ne hko', fillNil_get]
      rw [this]; exact h5
    · intro k e' he
      refine e5 k e' ?_
      have hko : k ≠ o := by
        rintro rfl
        have := lookup_key he
        simp at this
      have hlk : ∀ {l : Holes}, (l.filter fun p => p.1 != o).lookup k = some e' → l.lookup k = some e' := by
        intro l
        induction l with
        | nil => intro h; exact h
        | cons p l ih =>
          intro h
          rw [List.filter_cons] at h
          rw [lookup_cons]
          by_cases hp : p.1 = o
          · rw [if_neg (by simpa using hp)] at h
            have : ¬ k = p.1 := fun e => hko (e.trans hp)
            rw [if_neg this]; exact ih h
          · rw [if_pos (by simpa using hp), lookup_cons] at h
            by_cases hk : k = p.1
            · rw [if_pos hk] at h ⊢; exact h
            · rw [if_neg hk] at h ⊢; exact ih h
      exact hlk he
end
/-! ### One state for another, ahead of what comes -/
def Imp (X : Ctx) (Γ : Gam) (Ω : Omg) (Γ' : Gam) (Ω' : Omg) : Prop := ∀ a w, Sat X Γ Ω a w → Sat X Γ' Ω' a w
section
variable {X : Ctx} {Γ Γ' : Gam} {Ω Ω' : Omg} {all : Array Oper} {os : List Oper} {c : Code} {e : Exit} {Q : Exit → Act → World → Prop}
theorem JL.imp (h : Imp X Γ Ω Γ' Ω') (k : JL X all Γ' Ω' os Q) : JL X all Γ Ω os Q := fun a w hs => k a w (h a w hs)
theorem JC.imp (h : Imp X Γ Ω Γ' Ω') (k : JC X Γ' Ω' c Q) : JC X Γ Ω c Q := fun a w hs => k a w (h a w hs)
theorem JE.imp (h : Imp X Γ Ω Γ' Ω') (k : JE X Γ' Ω' Q e) : JE X Γ Ω Q e := fun a w hs => k a w (h a w hs)
end
end Go.Trw
