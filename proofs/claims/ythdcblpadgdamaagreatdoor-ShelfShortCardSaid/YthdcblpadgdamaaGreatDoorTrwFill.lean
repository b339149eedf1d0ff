/- Own work: structs built with slices of the call's own in them. -/
import Derived.Test.YthdcblpadgdamaaGreatDoorTrwMake
set_option linter.all false
namespace Go.Trw
open Go
/-- A struct's value of which some cells are known otherwise than by data. -/
def DH {α : Type} (R : RT α) (d : α) (hs : Holes) : Ent := ⟨fun gs S w v => ∃ cs : Array Value, v = .agg cs ∧ R.rep S w (fillNil cs.toList (hs.map Prod.fst)) d ∧ HolesAt gs S w cs.toList hs,
  fun hg hl ⟨cs, h1, h2, h3⟩ => ⟨cs, h1, R.stable h2 hl, fun o e he => let ⟨x, k1, k2⟩ := h3 o e he; ⟨x, k1, e.mono hg hl k2⟩⟩⟩
theorem Keeps.dh {ks : List Nat} {α : Type} {R : RT α} {d : α} {hs : Holes} (h : HKeep ks hs) : Keeps ks (DH R d hs) :=
  fun gs S w v ⟨cs, h1, h2, h3⟩ => ⟨cs, h1, h2, fun o e he => let ⟨x, k1, k2⟩ := h3 o e he; ⟨x, k1, h.get he _ _ _ _ k2⟩⟩
section
variable {X : Ctx} {Γ : Gam} {Ω : Omg} {α β : Type} {R : RT α} {Rf : RT β} {x y : Operand} {d i j ty T T0 E o : Nat} {u : α} {pos : String} {af : Array Edge} {g : Option (Nat × Bool)} {φ : Value → Prop} {hs hs' : Holes}
theorem fillNil_hole {cs : List Value} {ks : List Nat} {o : Nat} {v : Value} (ho : o < cs.length) : fillNil (cs.set o v) (o :: ks) = splice (fillNil cs ks) o [nilV] := by
  rw [splice_one (by rw [fillNil_length]; exact ho)]
  apply List.ext_getElem
  · simp [fillNil_length]
  · intro k h1 h2
    rw [fillNil_get]
    by_cases hko : k = o
    · subst hko; simp
    · have hb : (k == o) = false := by simpa using hko
      have hko' : ¬ o = k := fun e => hko e.symm
      simp only [List.contains_cons, hb, Bool.false_or, List.getElem_set_ne hko', fillNil_get]
theorem Ren.dh {σ : List (Nat × Nat)} {hs2 : Holes} {d0 : α} (h : HRen σ hs hs2) : Ren σ (DH R d0 hs) (DH R d0 hs2) :=
  fun gs S w v ⟨cs, h1, h2, h3⟩ => ⟨cs, h1, h.keys ▸ h2, fun o e' he => by
    obtain ⟨e, k1, k2⟩ := h.get he
    obtain ⟨x, k3, k4⟩ := h3 o e k1
    exact ⟨x, k3, k2 _ _ _ _ k4⟩⟩
/-- The parts of a struct that is built. -/
inductive FillH (Γ : Gam) (Ω : Omg) (pl : List (Nat × Nat)) {α : Type} (R : RT α) : List (Nat × Operand) → α → Holes → α → Holes → Prop
  | nil {z : α} {hs : Holes} : FillH Γ Ω pl R [] z hs z hs
  | cons {β : Type} {Rf : RT β} {f off : Nat} {x : Operand} {u : β} {set : α → β → α} {rest : List (Nat × Operand)} {z z' : α} {hs hs' : Holes}
      (hp : pl[f]? = some (off, Rf.size)) (hx : Opd Γ x (D Rf u)) (hf : FieldSet R off Rf set) (hd : (hs.map Prod.fst).all (fun k => Nat.blt k off || Nat.ble (off + Rf.size) k) = true) (hr : FillH Γ Ω pl R rest (set z u) hs z' hs') : FillH Γ Ω pl R ((f, x) :: rest) z hs z' hs'
  | hole {β : Type} {Re : RT β} {f off j E : Nat} {l : List β} {x : Operand} {set : α → List β → α} {rest : List (Nat × Operand)} {z z' : α} {hs hs' : Holes}
      (hp : pl[f]? = some (off, 1)) (hx : Opd Γ x (OS j)) (hj : Ω.lookup j = some (OwnSl Re E l)) (hf : FieldSet R off (RSlice Re) set) (hr : FillH Γ Ω pl R rest (set z []) ((off, OS j) :: hs) z' hs') : FillH Γ Ω pl R ((f, x) :: rest) z hs z' hs'
theorem FillH.run {pl : List (Nat × Nat)} {w : World} {gs : Nat → Option Value} {own : Nat → Option Nat} {a : Act} (hs0 : SatD X Γ Ω a w gs own) :
    ∀ {parts : List (Nat × Operand)} {z z' : α} {hs hs' : Holes} {cells : Array Value}, FillH Γ Ω pl R parts z hs z' hs' → R.rep (X.S own) w (fillNil cells.toList (hs.map Prod.fst)) z → HolesAt gs (X.S own) w cells.toList hs →
    ∃ cells', Instr.fill (pl[·]?) cells (parts.map fun p => (p.1, a.eval p.2)) = some cells' ∧ R.rep (X.S own) w (fillNil cells'.toList (hs'.map Prod.fst)) z' ∧ HolesAt gs (X.S own) w cells'.toList hs' := by
  intro parts z z' hs hs' cells h
  induction h generalizing cells with
  | nil => intro hr hh; exact ⟨cells, rfl, hr, hh⟩
  | cons hp hx hf hd hr ih =>
    rename_i β' Rf' f' off' x' u' set' rest' z1 z2 h1' h2'
    intro hrep hh
    have hv := RT.val_cells (show Rf'.val (X.S own) w (a.eval x') u' from hx.get hs0)
    have hl := Rf'.len hv
    have hl2 := R.len hrep
    rw [fillNil_length] at hl2
    have hle := hf.le
    have hl1 : (a.eval x').cells.size = Rf'.size := by simpa using hl
    have hl3 : cells.size = R.size := by simpa using hl2
    have hspl := fill_splice off' (a.eval x').cells.toList 0 cells (by simp; omega)
    rw [Nat.add_zero] at hspl
    obtain ⟨cells', h1, h2, h3⟩ := ih (cells := ((a.eval x').cells.toList.zipIdx 0).foldl (fun cs (p : Value × Nat) => cs.setIfInBounds (off' + p.2) p.1) cells)
      (by
        rw [hspl, fillNil_splice (by simp; omega) (by rw [hl]; exact hd)]
        exact hf.set hrep hv)
      (by
        rw [hspl]
        refine hole_keep (a := a) (by simp; omega) (Later.refl _ _) hh fun k e he => ?_
        have := (List.all_eq_true.1 hd) k (lookup_key he)
        simp only [Bool.or_eq_true, Nat.blt_eq, Nat.ble_eq] at this
        omega)
    refine ⟨cells', ?_, h2, h3⟩
    simp only [List.map_cons, Instr.fill, hp]
    rw [if_neg (by simp [hl1]; omega)]
    rw [← h1]
    congr 1
    rw [← Array.foldl_toList, Array.toList_zipIdx]
  | hole hp hx hj hf hr ih =>
    rename_i β' Re' f' off' j' E' l' x' set' rest' z1 z2 h1' h2'
    intro hrep hh
    have hv : gs j' = some (a.eval x') := hx.sat hs0
    obtain ⟨vj, hvj, xs, hrow, _⟩ := hs0.obj j' _ hj
    rw [hv] at hvj
    simp only [Option.some.injEq] at hvj
    have hcv : cellv (a.eval x') = true := by
      rw [hvj]
      rcases hrow.2 with ⟨h, _⟩ | ⟨_, _, _, h, _⟩ <;> rw [h] <;> rfl
    have hcl : (a.eval x').cells = #[a.eval x'] := cellv_cells hcv
    have hl2 := R.len hrep
    rw [fillNil_length] at hl2
    have hle := hf.le
    have hsz1 : (RSlice Re').size = 1 := rfl
    have hl3 : cells.size = R.size := by simpa using hl2
    have hspl := fill_splice off' (a.eval x').cells.toList 0 cells (by simp [hcl]; omega)
    rw [Nat.add_zero] at hspl
    have hsp2 : splice cells.toList off' (a.eval x').cells.toList = cells.toList.set off' (a.eval x') := by
      rw [hcl]; exact splice_one (by simp; omega)
    rw [hsp2] at hspl
    have hn : (RSlice Re').rep (X.S own) w [nilV] [] := ⟨none, 0, 0, rfl, rfl, Nat.le_refl _, Nat.zero_le _, .inl rfl⟩
    obtain ⟨cells', h1, h2, h3⟩ := ih (cells := ((a.eval x').cells.toList.zipIdx 0).foldl (fun cs (p : Value × Nat) => cs.setIfInBounds (off' + p.2) p.1) cells)
      (by
        rw [hspl, List.map_cons, fillNil_hole (by simp; omega)]
        exact hf.set hrep hn)
      (by
        rw [hspl]
        intro k e he
        rw [lookup_cons] at he
        by_cases hko : k = off'
        · subst hko
          simp only [if_true, Option.some.injEq] at he
          subst he
          exact ⟨a.eval x', by rw [List.getElem?_set_self (by simp; omega)], hv⟩
        · rw [if_neg hko] at he
          obtain ⟨x2, k1, k2⟩ := hh k e he
          exact ⟨x2, by rw [List.getElem?_set_ne (fun e => hko e.symm)]; exact k1, k2⟩)
    refine ⟨cells', ?_, h2, h3⟩
    simp only [List.map_cons, Instr.fill, hp]
    rw [if_neg (by simp [hcl]; omega)]
    rw [← h1]
    congr 1
    rw [← Array.foldl_toList, Array.toList_zipIdx]
theorem vC {pl : List (Nat × Nat)} {parts : List (Nat × Operand)} {z z' : α} (hp : placesOf X.P T = some pl) (hz : ZeroOK X.P T R z) (hf : FillH Γ Ω pl R parts z [] z' hs') (hR : R.agg = true := by rfl) (hd : Nat.blt d X.n = true := by rfl) :
    ST X Γ Ω ⟨some d, .build T parts.toArray, ty, pos, af, g⟩ ((d, DH R z' hs') :: Γ) Ω :=
  ST.val0 rfl hd fun a w gs own hs => by
    obtain ⟨zv, h1, h2⟩ := hz.ex
    obtain ⟨cells, h3, h4, h5⟩ := hf.run hs (cells := zv.cells) (by rw [List.map_nil, fillNil_nil]; exact RT.val_cells (h2 (X.S own) w)) (fun o e he => nomatch he)
    have hb : X.P.built T (parts.map fun p => (p.1, a.eval p.2)) = some cells := by
      unfold Program.built
      unfold placesOf at hp
      cases hi : X.P.info? T with
      | none => simp [hi] at h1
      | some it =>
        simp [hi] at h1
        split at hp
        · rename_i fields hu
          simp only [hu, h1, hp]
          simpa using h3
        · cases hp
    refine ⟨.agg cells, ?_, ⟨cells, rfl, h4, h5⟩⟩
    simp only [execOp]
    rw [run_value, Go.run_build w T _ cells (by simpa using hb)]
/-- The holes hold slices of the call's own. -/
inductive HSl (Ω : Omg) : Holes → Prop
  | nil : HSl Ω []
  | cons {β : Type} {Re : RT β} {E : Nat} {l : List β} {o j : Nat} {hs : Holes} : Ω.lookup j = some (OwnSl Re E l) → HSl Ω hs → HSl Ω ((o, OS j) :: hs)
theorem HSl.get {a : Act} {w : World} {gs : Nat → Option Value} {own : Nat → Option Nat} (hs0 : SatD X Γ Ω a w gs own) : ∀ {hs : Holes} {o : Nat} {e : Ent} {v : Value}, HSl Ω hs → hs.lookup o = some e → e.sem gs (X.S own) w v → cellv v = true
  | _, _, _, _, .nil, h, _ => by simp at h
  | _, o, e, v, .cons (o := o') (j := j) hj t, h, hv => by
    rw [lookup_cons] at h
    by_cases ho : o = o'
    · rw [if_pos ho] at h
      simp only [Option.some.injEq] at h
      subst h
      have hv' : gs j = some v := hv
      obtain ⟨vj, hvj, xs, hrow, _⟩ := hs0.obj j _ hj
      rw [hv'] at hvj
      simp only [Option.some.injEq] at hvj
      rw [hvj]
      rcases hrow.2 with ⟨h, _⟩ | ⟨_, _, _, h, _⟩ <;> rw [h] <;> rfl
    · rw [if_neg ho] at h; exact t.get hs0 h hv
/-- A whole value, of which some cells are known otherwise, is stored. -/
theorem vN {os : List Nat} {z : α} (hx : Opd Γ x (BP i 0)) (hy : Opd Γ y (DH (RNilAt R os) z hs)) (hsl : HSl Ω hs) (hT : TyOK X.P T R) (hi : Ω.lookup i = some (BoxAt φ R T0 u) := by first | rfl | exact AOC.get rfl) :
    ST X Γ Ω ⟨none, .store T x y, ty, pos, af, g⟩ Γ ((i, BoxH φ (RNilAt R os) T0 z hs) :: Ω) := by
  rintro a w Q ⟨gs, own, hs0⟩
  obtain ⟨b, h1, h2⟩ := hx.sat hs0
  obtain ⟨vcs, hve, hz, hho⟩ := hy.sat hs0
  obtain ⟨v, hv, b', cs, e1, e0, e2, e3, e4⟩ := hs0.obj i _ hi
  rw [h1] at hv
  simp only [Option.some.injEq] at hv
  subst hv
  simp only [Value.pointer.injEq, Option.some.injEq, Addr.mk.injEq] at e1
  obtain ⟨rfl, _⟩ := e1
  have hl1 := R.len hz.1
  rw [fillNil_length] at hl1
  have hl2 := R.len e4
  have hl3 : vcs.size = R.size := by simpa using hl1
  have hflat : ∀ q ∈ vcs.toList, cellv q = true := by
    intro q hq
    obtain ⟨k, hk, rfl⟩ := List.getElem_of_mem hq
    by_cases hc : (hs.map Prod.fst).contains k = true
    · have : k ∈ hs.map Prod.fst := by simpa using hc
      have hne : hs.lookup k ≠ none := lookup_mem.1 (by simpa using this)
      obtain ⟨e, he⟩ := Option.ne_none_iff_exists'.1 hne
      obtain ⟨q, k1, k2⟩ := hho k e he
      rw [List.getElem?_eq_getElem hk] at k1
      simp only [Option.some.injEq] at k1
      rw [k1]
      exact hsl.get hs0 he k2
    · have := R.flat hz.1 ((fillNil vcs.toList (hs.map Prod.fst))[k]'(by rw [fillNil_length]; exact hk)) (List.getElem_mem _)
      rw [fillNil_get, if_neg hc] at this
      exact this
  obtain ⟨w', hr, hfut, hsz, hb'⟩ := run_storeCells (P := X.P) vcs.toList 0 0 w cs e3 (by simp; omega) hflat
  have hrun : (execOp a.eval ⟨none, .store T x y, ty, pos, af, g⟩).run X.P w = .ok .skip w' := by
    have hcl : (a.eval y).cells = vcs := by rw [hve]; rfl
    rw [← hcl] at hr hl3
    simp only [execOp, h2, Instr.storeAt, run_bind]
    simp only [Instr.sureAddr, pure, Sem.run, storeVar, run_bind, hT.run_size]
    rw [if_neg (by simpa using hl3)]
    simp only [hr, Sem.run]
  unfold Oper.wp
  rw [hrun, Oper.upon_skip]
  refine ⟨gs, own, ?_⟩
  show SatD X Γ _ a w' gs own
  have hL : Later (X.S own) w (X.S own) w' := hfut.later (fun x _ hx => by subst hx; exact .inr (by rw [e2]; rfl)) (fun _ _ k => k)
  refine hs0.update h1 (by rw [hi]; simp) (hfut.mono fun x _ hx => by subst hx; exact e2) ?_
  have hsp : splice cs (0 + 0) vcs.toList = vcs.toList := by
    have : vcs.size = cs.length := by rw [hl3, hl2]
    simp [splice, this]
  rw [hsp] at hb'
  exact ⟨b, vcs.toList, rfl, e0, e2, hb', (RNilAt R os).stable hz hL, fun o e he => let ⟨x, k1, k2⟩ := hho o e he; ⟨x, k1, e.mono (fun _ _ k => k) hL k2⟩⟩
/-! ### The holes in another order -/
inductive SubH (hs : Holes) : Holes → Prop
  | nil : SubH hs []
  | cons {o : Nat} {e : Ent} {t : Holes} : hs.lookup o = some e → SubH hs t → SubH hs ((o, e) :: t)
theorem SubH.get {hs : Holes} : ∀ {t : Holes} {o : Nat} {e : Ent}, SubH hs t → t.lookup o = some e → hs.lookup o = some e
  | _, _, _, .nil, h => by simp at h
  | _, o, e, .cons (o := o') h1 t, h => by
    rw [lookup_cons] at h
    by_cases ho : o = o'
    · rw [if_pos ho] at h; simp only [Option.some.injEq] at h; subst h; subst ho; exact h1
    · rw [if_neg ho] at h; exact t.get h
def sameKeys (hs t : Holes) : Bool := (hs.map Prod.fst).all (fun k => (t.map Prod.fst).contains k) && (t.map Prod.fst).all (fun k => (hs.map Prod.fst).contains k)
theorem sameKeys_get {hs t : Holes} (h : sameKeys hs t = true) (k : Nat) : (hs.map Prod.fst).contains k = (t.map Prod.fst).contains k := by
  simp only [sameKeys, Bool.and_eq_true] at h
  rw [Bool.eq_iff_iff]
  constructor
  · intro hk; exact (List.all_eq_true.1 h.1) k (by simpa using hk)
  · intro hk; exact (List.all_eq_true.1 h.2) k (by simpa using hk)
theorem Imp.perm {hs2 : Holes} (hk : sameKeys hs hs2 = true) (hsub : SubH hs hs2) : Imp X Γ ((i, BoxH φ R T0 u hs) :: Ω) Γ ((i, BoxH φ R T0 u hs2) :: Ω) := by
  rintro a w ⟨gs, own, hs0⟩
  have h1 := hs0.recast (i := i) (e := BoxH φ R T0 u hs) (e' := BoxH φ R T0 u hs2) (by simp [lookup_cons]) (fun v hv ⟨b, cs, e1, e0, e2, e3, e4, e5⟩ =>
    ⟨b, cs, e1, e0, e2, e3, by rw [← fillNil_congr (fun k => sameKeys_get hk k)]; exact e4, fun o e he => e5 o e (hsub.get he)⟩)
  refine Sat.same (Γ := Γ) (Ω := (i, BoxH φ R T0 u hs2) :: (i, BoxH φ R T0 u hs) :: Ω) ⟨gs, own, h1⟩ (fun t e ht => ht) (fun t e ht => ?_) (fun t ht => ?_)
  · rw [lookup_cons] at ht ⊢
    by_cases hti : t = i
    · rw [if_pos hti] at ht ⊢; exact ht
    · rw [if_neg hti] at ht ⊢; rw [lookup_cons, if_neg hti]; exact ht
  · rw [lookup_cons] at ht ⊢
    by_cases hti : t = i
    · rw [if_pos hti] at ht; cases ht
    · rw [if_neg hti] at ht ⊢; rw [lookup_cons, if_neg hti]; exact ht
theorem ST.imp {Γ' Γ'' : Gam} {Ω' Ω'' : Omg} {o : Oper} (h : ST X Γ Ω o Γ' Ω') (k : Imp X Γ' Ω' Γ'' Ω'') : ST X Γ Ω o Γ'' Ω'' :=
  fun a w Q hs => Oper.wp_mono (fun a w hw => k a w hw) (h a w Q hs)
theorem qO {set : α → List β → α} {R1 : RT (List β)} {hs2 : Holes} (hx : Opd Γ x (BP i o)) (hy : Opd Γ y (OS j)) {l : List β} (hf : FieldSet R o (RSlice Rf) set) (hT : TyOK X.P T R1) (hj : Ω.lookup j = some (OwnSl Rf E l) := by first | rfl | exact AOC.get rfl) (hi : Ω.lookup i = some (BoxH φ R T0 u hs) := by first | rfl | exact AOC.get rfl) (h1 : R1.size = 1 := by rfl) (hk : sameKeys ((o, OS j) :: hs.filter fun p => p.1 != o) hs2 = true := by rfl) (hsub : SubH ((o, OS j) :: hs.filter fun p => p.1 != o) hs2 := by repeat' first | exact SubH.nil | refine SubH.cons rfl ?_) :
    ST X Γ Ω ⟨none, .store T x y, ty, pos, af, g⟩ Γ ((i, BoxH φ R T0 (set u []) hs2) :: Ω) :=
  (vY (hx := hx) (hy := hy) (hj := hj) (hi := hi) (hf := hf) (hT := hT) (h1 := h1) (hh := rfl)).imp (Imp.perm hk hsub)
theorem Imp.openP (i j E : Nat) (Re : RT β) {os : List Nat} {hs2 : Holes} (hi : Ω.lookup i = some (BoxH φ (RNilAt R (o :: os)) T0 u hs)) (hj : Ω.lookup j = none) (hij : Nat.beq i j = false) (ho : (hs.map Prod.fst).contains o = false)
    (hk : sameKeys ((o, OS j) :: hs) hs2 = true) (hsub : SubH ((o, OS j) :: hs) hs2) :
    Imp X Γ Ω Γ ((i, BoxH φ (RNilAt R os) T0 u hs2) :: (j, OwnSl Re E []) :: Ω) := fun a w h => Imp.perm hk hsub a w (h.open j E Re hi hj hij ho)
end
end Go.Trw
