/- Own work: more rules of the calculus: guards, choices, conversions, structs built, strings and slices read, calls, returns. -/
import Derived.Test.YthdcblpadgdamaaGreatDoorTrwMem
import Derived.Laws.Tables
set_option linter.all false
namespace Go.Trw
open Go
section
variable {X : Ctx} {Γ : Gam} {Ω : Omg} {α β : Type} {R : RT α} {Rf : RT β} {x y z : Operand} {d i off t ty T : Nat} {u : α} {pos : String} {af : Array Edge} {g : Option (Nat × Bool)}
/-! ### 1. Guards -/
theorem Sat.top {a : Act} {w : World} (h : Sat X Γ Ω a w) (d : Nat) (v : Value) (e : Ent) (he : ∀ gs S w, e.sem gs S w v) (hd : d < X.n) : Sat X ((d, e) :: Γ) Ω (a.put (some d) v) w := by
  obtain ⟨gs, own, hs⟩ := h
  exact ⟨gs, own, hs.put hd (Fut.refl _ _) (he _ _ _)⟩
theorem Sat.to_when {a : Act} {w : World} {c : Prop} {e : Ent} (hc : c) (h : Sat X ((d, e) :: Γ) Ω a w) : Sat X ((d, .when c e) :: Γ) Ω a w := by
  obtain ⟨gs, own, hs⟩ := h
  refine ⟨gs, own, { hs with ent := fun t e' ht => ?_ }⟩
  rw [lookup_cons] at ht
  by_cases htd : t = d
  · simp only [htd, if_true, Option.some.injEq] at ht
    subst ht
    refine ⟨fun _ => hs.ent t e (by rw [lookup_cons, if_pos htd]), fun k => absurd hc k⟩
  · simp only [htd, if_false] at ht
    exact hs.ent t e' (by rw [lookup_cons, if_neg htd]; exact ht)
theorem yielded_bool {all : Array Oper} {a : Act} {j t : Nat} {oj : Oper} {b : Bool} (hj : all[j]? = some oj) (hdst : oj.dst = some t) (hv : a.tmps.getD t undef = .bool b) : yielded all a.tmps j = some b := by
  unfold yielded
  simp only [hj, Option.bind_some, hdst]
  cases hk : a.tmps[t]? with
  | none => simp [hk, undef] at hv
  | some x => simp [hk] at hv; simp [hv]
theorem yielded_undef {all : Array Oper} {a : Act} {j t : Nat} {oj : Oper} (hj : all[j]? = some oj) (hdst : oj.dst = some t) (hv : a.tmps.getD t undef = undef) : yielded all a.tmps j = none := by
  unfold yielded
  simp only [hj, Option.bind_some, hdst]
  cases hk : a.tmps[t]? with
  | none => rfl
  | some x => simp [hk] at hv; simp [hv, undef]
/-- An operation under a guard, whose own value is known. -/
theorem JL.guard {all : Array Oper} {o oj : Oper} {os : List Oper} {Q : Exit → Act → World → Prop} {j : Nat} {want b : Bool} {e : Ent} (hg : o.guard = some (j, want)) (hj : all[j]? = some oj)
    (hdst : oj.dst = some t) (ht : Γ.lookup t = some (D RBool b)) (ho : o.dst = some d) (hd : Nat.blt d X.n = true)
    (h : b = want → ST X Γ Ω o ((d, e) :: Γ) Ω) (k : JL X all ((d, .when (b = want) e) :: Γ) Ω os Q) : JL X all Γ Ω (o :: os) Q := by
  intro a w hs
  have hv : a.tmps.getD t undef = .bool b := by
    obtain ⟨gs, own, hs⟩ := hs
    exact RBool.val_iff.1 (hs.ent t _ ht)
  have hy := yielded_bool hj hdst hv
  simp only [wpList]
  by_cases hb : b = want
  · rw [if_pos (by simp [Region.wanted, hg, hy, hb])]
    exact Oper.wp_mono (fun a w hw => k a w (hw.to_when hb)) (h hb a w Q hs)
  · rw [if_neg (by simp [Region.wanted, hg, hy, hb]), ho]
    exact k _ _ (hs.top d undef _ (fun gs S w => ⟨fun hc => absurd hc hb, fun _ => rfl⟩) (lt_of_blt hd))
/-- An operation under a guard that itself stands under one. -/
theorem JL.guard2 {all : Array Oper} {o oj : Oper} {os : List Oper} {Q : Exit → Act → World → Prop} {j : Nat} {want b : Bool} {c : Prop} {e : Ent} (hg : o.guard = some (j, want)) (hj : all[j]? = some oj)
    (hdst : oj.dst = some t) (ht : Γ.lookup t = some (.when c (D RBool b))) (ho : o.dst = some d) (hd : Nat.blt d X.n = true)
    (h : c ∧ b = want → ST X Γ Ω o ((d, e) :: Γ) Ω) (k : JL X all ((d, .when (c ∧ b = want) e) :: Γ) Ω os Q) : JL X all Γ Ω (o :: os) Q := by
  intro a w hs
  have hv : (c → a.tmps.getD t undef = .bool b) ∧ (¬ c → a.tmps.getD t undef = undef) := by
    obtain ⟨gs, own, hs⟩ := hs
    have := hs.ent t _ ht
    exact ⟨fun hc => RBool.val_iff.1 (this.1 hc), this.2⟩
  simp only [wpList]
  by_cases hc : c
  · have hy := yielded_bool hj hdst (hv.1 hc)
    by_cases hb : b = want
    · rw [if_pos (by simp [Region.wanted, hg, hy, hb])]
      exact Oper.wp_mono (fun a w hw => k a w (hw.to_when ⟨hc, hb⟩)) (h ⟨hc, hb⟩ a w Q hs)
    · rw [if_neg (by simp [Region.wanted, hg, hy, hb]), ho]
      exact k _ _ (hs.top d undef _ (fun gs S w => ⟨fun hc => absurd hc.2 hb, fun _ => rfl⟩) (lt_of_blt hd))
  · have hy := yielded_undef hj hdst (hv.2 hc)
    rw [if_neg (by simp [Region.wanted, hg, hy]), ho]
    exact k _ _ (hs.top d undef _ (fun gs S w => ⟨fun hc' => absurd hc'.1 hc, fun _ => rfl⟩) (lt_of_blt hd))
theorem run_pick {P : Program} {a : Act} {w : World} {b : Bool} (hc : a.eval x = .bool b) : (execOp a.eval ⟨some d, .pick x y z, ty, pos, af, g⟩).run P w = .ok (.value (if b then a.eval y else a.eval z)) w := by
  simp only [execOp, hc]
  rw [run_bind]
  cases b <;> rfl
theorem op_pick {b : Bool} {u1 u2 : α} (hc : Opd Γ x (D RBool b)) (hy : b = true → Opd Γ y (D R u1)) (hz : b = false → Opd Γ z (D R u2)) (hd : Nat.blt d X.n = true) :
    ST X Γ Ω ⟨some d, .pick x y z, ty, pos, af, g⟩ ((d, D R (if b then u1 else u2)) :: Γ) Ω :=
  ST.val0 rfl hd fun a w gs own hs => by
    have h1 := RBool.val_iff.1 (hc.get hs)
    refine ⟨_, run_pick h1, ?_⟩
    cases hb : b with
    | true => exact (hy hb).sat hs
    | false => exact (hz hb).sat hs
theorem qm {b p : Bool} (hc : Opd Γ x (D RBool b)) (hz : b = false → Opd Γ z (D RBool p)) (hd : Nat.blt d X.n = true := by rfl) :
    ST X Γ Ω ⟨some d, .pick x (.const (.bool true)) z, ty, pos, af, g⟩ ((d, D RBool (b || p)) :: Γ) Ω :=
  ST.val0 rfl hd fun a w gs own hs => by
    have h1 := RBool.val_iff.1 (hc.get hs)
    refine ⟨_, run_pick h1, ?_⟩
    cases hb : b with
    | true => exact ro_bool
    | false => exact (hz hb).sat hs
theorem ql {b p : Bool} (hc : Opd Γ x (D RBool b)) (hy : b = true → Opd Γ y (D RBool p)) (hd : Nat.blt d X.n = true := by rfl) :
    ST X Γ Ω ⟨some d, .pick x y (.const (.bool false)), ty, pos, af, g⟩ ((d, D RBool (b && p)) :: Γ) Ω :=
  ST.val0 rfl hd fun a w gs own hs => by
    have h1 := RBool.val_iff.1 (hc.get hs)
    refine ⟨_, run_pick h1, ?_⟩
    cases hb : b with
    | true => exact (hy hb).sat hs
    | false => exact ro_bool
/-! ### 2. One operand -/
theorem vv {k : IntKind} {m : Int} (hx : Opd Γ x (D (RInt k) m)) (hd : Nat.blt d X.n = true := by rfl) :
    ST X Γ Ω ⟨some d, .unOp .neg t x, ty, pos, af, g⟩ ((d, D (RInt k) (k.wrap (0 - m))) :: Γ) Ω :=
  ST.val0 rfl hd fun a w gs own hs => by
    have h1 := (RInt.val_iff.1 (hx.get hs)).1
    refine ⟨.int k (k.wrap (0 - m)), ?_, ro_int (inK_wrap _ _)⟩
    simp only [execOp, h1]
    rw [run_value]
    simp [Op.unary, Op.intArith, pure, Sem.run]
theorem qA {k k2 : IntKind} {t2 : Nat} {m : Int} {us : TypeDesc} (hx : Opd Γ x (D (RInt k) m)) (hs1 : X.P.underlying t = some us) (hu : X.P.underlying t2 = some (.int k2)) (hd : Nat.blt d X.n = true := by rfl) :
    ST X Γ Ω ⟨some d, .convert t t2 x, ty, pos, af, g⟩ ((d, D (RInt k2) (k2.wrap m)) :: Γ) Ω :=
  ST.val0 rfl hd fun a w gs own hs => by
    have h1 := (RInt.val_iff.1 (hx.get hs)).1
    refine ⟨.int k2 (k2.wrap m), ?_, ro_int (inK_wrap _ _)⟩
    simp only [execOp, h1]
    rw [run_value]
    simp only [convert, run_bind, run_underlying hs1, run_underlying hu]
    simp [Conv.intToInt, pure, Sem.run]
theorem vw (hx : Opd Γ x (D (RPtr R) u)) (hd : Nat.blt d X.n = true := by rfl) :
    ST X Γ Ω ⟨some d, .nilCheck x, ty, pos, af, g⟩ ((d, D (RPtr R) u) :: Γ) Ω :=
  ST.val0 rfl hd fun a w gs own hs => by
    have hv := hx.get hs
    obtain ⟨b, o, ecs, h1, _⟩ := RPtr.val_iff.1 hv
    exact ⟨a.eval x, by simp [execOp, h1, pure, Sem.run], hv⟩
theorem qt (hx : Opd Γ x (BP i off)) (hd : Nat.blt d X.n = true := by rfl) :
    ST X Γ Ω ⟨some d, .nilCheck x, ty, pos, af, g⟩ ((d, BP i off) :: Γ) Ω :=
  ST.val0 rfl hd fun a w gs own hs => by
    have hv := hx.sat hs
    obtain ⟨b, h1, h2⟩ := hv
    exact ⟨a.eval x, by simp [execOp, h2, pure, Sem.run], ⟨b, h1, h2⟩⟩
theorem Sems.get {gs S w} : ∀ {es : List Ent} {vs : List Value} {j : Nat} {e : Ent}, Sems gs S w es vs → es[j]? = some e → ∃ v, vs[j]? = some v ∧ e.sem gs S w v
  | _, _, 0, e, .cons h _, he => by simp at he; subst he; exact ⟨_, rfl, h⟩
  | _, _, j + 1, e, .cons _ t, he => by simp at he; simpa using t.get he
  | _, _, _, _, .nil, he => by simp at he
theorem qu {es : List Ent} {e : Ent} {j : Nat} (hx : Opd Γ x (TUP es)) (he : es[j]? = some e := by rfl) (hd : Nat.blt d X.n = true := by rfl) :
    ST X Γ Ω ⟨some d, .extract x j, ty, pos, af, g⟩ ((d, e) :: Γ) Ω :=
  ST.val0 rfl hd fun a w gs own hs => by
    obtain ⟨vs, h1, h2⟩ := hx.sat hs
    obtain ⟨v, h3, h4⟩ := h2.get he
    refine ⟨v, ?_, h4⟩
    simp only [execOp, h1]
    rw [run_value]
    simp [Instr.extract, h3, pure, Sem.run]
/-! ### 3. Structs: a field of a value; a struct that is built -/
def placesOf (P : Program) (T : Nat) : Option (List (Nat × Nat)) :=
  match P.underlying T with
  | some (.struct fields) => fields.toList.mapM fun f => (P.info? f.type).map fun i => (f.offset, i.size)
  | _ => none
theorem mapM_get {γ δ : Type} {f : γ → Option δ} : ∀ {l : List γ} {r : List δ}, l.mapM f = some r → ∀ j : Nat, r[j]? = (l[j]?).bind f
  | [], r, h, j => by simp at h; subst h; simp
  | c :: l, r, h, j => by
    simp only [List.mapM_cons, Option.bind_eq_bind, Option.pure_def] at h
    cases hc : f c with
    | none => simp [hc] at h
    | some y =>
      cases hr : l.mapM f with
      | none => simp [hc, hr] at h
      | some rest =>
        simp [hc, hr] at h
        subst h
        cases j with
        | zero => simp [hc]
        | succ j => simpa using mapM_get hr j
theorem fieldOff_places {P : Program} {T f : Nat} {pl : List (Nat × Nat)} {p : Nat × Nat} (h : placesOf P T = some pl) (hf : pl[f]? = some p) : fieldOff P T f = some p := by
  unfold placesOf at h
  unfold fieldOff
  split at h
  · rename_i fs hu
    have := mapM_get h f
    rw [hf] at this
    simp only [hu]
    cases hk : fs[f]? with
    | none => simp [hk] at this
    | some fd =>
      simp [hk] at this
      cases hi : P.info? fd.type with
      | none => simp [hi] at this
      | some i => simp [hi] at this; simp [this, hi]
  · cases h
theorem fill_splice (off : Nat) : ∀ (vs : List Value) (k : Nat) (cs : Array Value), off + k + vs.length ≤ cs.size →
    ((vs.zipIdx k).foldl (fun cs (p : Value × Nat) => cs.setIfInBounds (off + p.2) p.1) cs).toList = splice cs.toList (off + k) vs := by
  intro vs
  induction vs with
  | nil => intro k cs _; simp [splice]
  | cons v vs ih =>
    intro k cs h
    simp at h
    rw [List.zipIdx_cons, List.foldl_cons, ih (k + 1) _ (by simp; omega)]
    simp only [splice, List.length_cons]
    have e1 : ((cs.setIfInBounds (off + k) v).toList).take (off + (k + 1)) = cs.toList.take (off + k) ++ [v] := by
      rw [show off + (k + 1) = (off + k) + 1 from by omega, List.take_succ_eq_append_getElem (by simp; omega)]
      simp [List.take_set_of_le]
    have e2 : ((cs.setIfInBounds (off + k) v).toList).drop (off + (k + 1) + vs.length) = cs.toList.drop (off + k + (vs.length + 1)) := by
      simp only [Array.toList_setIfInBounds]
      rw [List.drop_set_of_lt (by omega)]
      congr 1; omega
    rw [e1, e2]; simp
/-- The fields of a struct that is built, one behind the other. -/
inductive Fill (Γ : Gam) (pl : List (Nat × Nat)) {α : Type} (R : RT α) : List (Nat × Operand) → α → α → Prop
  | nil {z : α} : Fill Γ pl R [] z z
  | cons {β : Type} {Rf : RT β} {f off : Nat} {x : Operand} {u : β} {set : α → β → α} {rest : List (Nat × Operand)} {z z' : α}
      (hp : pl[f]? = some (off, Rf.size)) (hx : Opd Γ x (D Rf u)) (hf : FieldSet R off Rf set) (hr : Fill Γ pl R rest (set z u) z') : Fill Γ pl R ((f, x) :: rest) z z'
theorem Fill.run {pl : List (Nat × Nat)} {S : Nat → Prop} {w : World} {gs : Nat → Option Value} {a : Act} (ha : ∀ t e, Γ.lookup t = some e → e.sem gs S w (a.tmps.getD t undef)) :
    ∀ {parts : List (Nat × Operand)} {z z' : α} {cells : Array Value}, Fill Γ pl R parts z z' → R.rep S w cells.toList z →
    ∃ cells', Instr.fill (pl[·]?) cells (parts.map fun p => (p.1, a.eval p.2)) = some cells' ∧ R.rep S w cells'.toList z' := by
  intro parts z z' cells h
  induction h generalizing cells with
  | nil => intro hr; exact ⟨cells, rfl, hr⟩
  | cons hp hx hf hr ih =>
    rename_i β' Rf' f' off' x' u' set' rest' z1 z2
    intro hrep
    have hv := RT.val_cells (show Rf'.val S w (a.eval x') u' from hx gs S w a ha)
    have hl := Rf'.len hv
    have hl2 := R.len hrep
    have hle := hf.le
    simp at hl hl2
    have hspl := fill_splice off' (a.eval x').cells.toList 0 cells (by simp; omega)
    obtain ⟨cells', h1, h2⟩ := ih (cells := ((a.eval x').cells.toList.zipIdx 0).foldl (fun cs (p : Value × Nat) => cs.setIfInBounds (off' + p.2) p.1) cells)
      (by rw [hspl]; exact hf.set hrep hv)
    refine ⟨cells', ?_, h2⟩
    simp only [List.map_cons, Instr.fill, hp]
    rw [if_neg (by simp [hl]; omega)]
    rw [← h1]
    congr 1
    rw [← Array.foldl_toList, Array.toList_zipIdx]
theorem qF {pl : List (Nat × Nat)} {parts : List (Nat × Operand)} {z z' : α} (hp : placesOf X.P T = some pl) (hz : ZeroOK X.P T R z) (hf : Fill Γ pl R parts z z') (hR : R.agg = true := by rfl) (hd : Nat.blt d X.n = true := by rfl) :
    ST X Γ Ω ⟨some d, .build T parts.toArray, ty, pos, af, g⟩ ((d, D R z') :: Γ) Ω :=
  ST.val0 rfl hd fun a w gs own hs => by
    obtain ⟨zv, h1, h2⟩ := hz.ex
    obtain ⟨cells, h3, h4⟩ := hf.run hs.ent (RT.val_cells (h2 (X.S own) w))
    have hb : X.P.built T (parts.map fun p => (p.1, a.eval p.2)) = some cells := by
      unfold Program.built
      unfold placesOf at hp
      cases hi : X.P.info? T with
      | none => simp [hi] at h1
      | some it =>
        simp [hi] at h1
        split at hp
        · rename_i fields hu
          simp only [hu, h1, hp]
          simpa using h3
        · cases hp
    refine ⟨.agg cells, ?_, ⟨fun _ => ⟨cells, rfl, h4⟩, fun k => by rw [hR] at k; cases k⟩⟩
    simp only [execOp]
    rw [run_value, Go.run_build w T _ cells (by simpa using hb)]
theorem run_part {P : Program} {w : World} {S : Nat → Prop} {cs : Array Value} {T off : Nat} {u : β} (hT : TyOK P T Rf) (hr : Rf.rep S w ((cs.toList.drop off).take Rf.size) u) :
    (part T cs off).run P w = .ok (if Rf.agg then .agg ((cs.toList.drop off).take Rf.size).toArray else ((cs.toList.drop off).take Rf.size).headD undef) w := by
  unfold part
  rw [run_bind, hT.run_agg]
  simp only []
  cases ha : Rf.agg with
  | true =>
    simp only [if_true, run_bind, hT.run_size, pure, Sem.run]
    congr 2
    apply Array.ext'
    simp [List.extract_eq_take_drop, Nat.add_sub_cancel_left]
  | false =>
    have hl := Rf.len hr
    rw [Rf.one ha] at hl ⊢
    have hlt : off < cs.size := by simp at hl; omega
    simp only [Bool.false_eq_true, if_false, Array.getElem?_eq_getElem hlt, pure, Sem.run]
    congr 1
    rw [List.drop_eq_getElem_cons (by simpa using hlt)]
    simp
theorem op_field {pl : List (Nat × Nat)} {f Tf : Nat} {get : α → β} {fields : Array Field} {fd : Field} (hx : Opd Γ x (D R u)) (hR : R.agg = true) (hu : X.P.underlying T = some (.struct fields)) (hfd : fields[f]? = some fd)
    (hf : FieldOf R fd.offset Rf get) (hT : TyOK X.P fd.type Rf) (hd : Nat.blt d X.n = true) :
    ST X Γ Ω ⟨some d, .field T x f, ty, pos, af, g⟩ ((d, D Rf (get u)) :: Γ) Ω :=
  ST.val0 rfl hd fun a w gs own hs => by
    obtain ⟨cs, h1, h2⟩ := (hx.get hs).1 hR
    refine ⟨_, ?_, RT.val_of (hf.get h2)⟩
    simp only [execOp, h1]
    rw [run_value]
    simp only [Instr.field, run_bind, run_underlying hu, hfd, asAgg, pure, Sem.run]
    rw [run_part hT (hf.get h2)]
/-! ### 4. Strings and slices, read -/
theorem run_pure {γ : Type} {P : Program} {w : World} {v : γ} : (pure v : Sem γ).run P w = .ok v w := rfl
theorem run_len {P : Program} {w : World} {a : Act} : (execOp a.eval ⟨some d, .call ⟨.builtin .len, #[x], #[t]⟩, ty, pos, af, g⟩).run P w =
    match (Builtin.len_ #[t] ty #[a.eval x]).run P w with
    | .ok x w' => .ok (.value x) w'
    | .halt h w' => .halt h w' := by
  have hinv : ∀ cs (args : Array Value), invoke (.builtin .len #[t] ty cs) args = (do pure (Next.value (← Builtin.len_ #[t] ty args))) := fun _ _ => rfl
  simp only [execOp, resolve, run_bind, run_pure, List.map_toArray, List.map_cons, List.map_nil, hinv, run_value]
  cases (Builtin.len_ #[t] ty #[a.eval x]).run P w <;> rfl
theorem run_len_str {P : Program} {w : World} {s : ByteArray} (hu : P.underlying t = some .string) : (Builtin.len_ #[t] ty #[.string s]).run P w = .ok (goInt s.size) w := by
  simp [Builtin.len_, run_bind, run_underlying hu, run_pure]
theorem run_len_slice {P : Program} {w : World} {E n c : Nat} {ao : Option Addr} (hu : P.underlying t = some (.slice E)) : (Builtin.len_ #[t] ty #[.slice ao n c]).run P w = .ok (goInt n) w := by
  simp [Builtin.len_, run_bind, run_underlying hu, run_pure]
theorem qD {s : Str} (hx : Opd Γ x (D RStr s)) (hu : X.P.underlying t = some .string) (hd : Nat.blt d X.n = true := by rfl) :
    ST X Γ Ω ⟨some d, .call ⟨.builtin .len, #[x], #[t]⟩, ty, pos, af, g⟩ ((d, D (RInt .i64) (s.length : Int)) :: Γ) Ω :=
  ST.val0 rfl hd fun a w gs own hs => by
    obtain ⟨h1, h2⟩ := RStr.val_iff.1 (hx.get hs)
    refine ⟨.int .i64 (s.length : Int), ?_, ro_int (by unfold maxS at h2; simp [inK, IntKind.min, IntKind.max, IntKind.signed, IntKind.bits]; omega)⟩
    rw [run_len, h1, run_len_str hu]
    simp only [goInt, ByteArray.size, List.size_toArray]
theorem qf {E : Nat} {l : List α} (hx : Opd Γ x (D (RSlice R) l)) (hu : X.P.underlying t = some (.slice E)) (hd : Nat.blt d X.n = true := by rfl) :
    ST X Γ Ω ⟨some d, .call ⟨.builtin .len, #[x], #[t]⟩, ty, pos, af, g⟩ ((d, D (RInt .i64) (l.length : Int)) :: Γ) Ω :=
  ST.val0 rfl hd fun a w gs own hs => by
    obtain ⟨ao, n, c, h1, h2, h3, h4, _⟩ := RSlice.val_iff.1 (hx.get hs)
    subst h2
    refine ⟨.int .i64 (l.length : Int), ?_, ro_int (by unfold maxS at h4; simp [inK, IntKind.min, IntKind.max, IntKind.signed, IntKind.bits]; omega)⟩
    rw [run_len, h1, run_len_slice hu]
    simp only [goInt]
/-- The byte of a text at a place. -/
def sAt (s : Str) (n : Int) : Int := ((s.getD n.toNat 0).toNat : Int)
theorem inK_sAt (s : Str) (n : Int) : inK .u8 (sAt s n) := by
  have := (s.getD n.toNat 0).toNat_lt
  simp [inK, sAt, IntKind.min, IntKind.max, IntKind.signed, IntKind.bits] at *; omega
theorem qU {k : IntKind} {s : Str} {n : Int} (hx : Opd Γ x (D RStr s)) (hy : Opd Γ y (D (RInt k) n)) (hu : X.P.underlying t = some .string) (hb : 0 ≤ n ∧ n < (s.length : Int)) (hd : Nat.blt d X.n = true := by rfl) :
    ST X Γ Ω ⟨some d, .index t x y, ty, pos, af, g⟩ ((d, D (RInt .u8) (sAt s n)) :: Γ) Ω :=
  ST.val0 rfl hd fun a w gs own hs => by
    obtain ⟨h1, h2⟩ := RStr.val_iff.1 (hx.get hs)
    obtain ⟨h3, _⟩ := RInt.val_iff.1 (hy.get hs)
    refine ⟨.int .u8 (sAt s n), ?_, ro_int (inK_sAt _ _)⟩
    have hlt : n.toNat < s.length := by omega
    simp only [execOp, h1, h3]
    rw [run_value]
    simp only [Instr.index, asIntOf, run_bind, run_underlying hu, pure, Sem.run]
    have e : (if 0 ≤ n then (⟨s.toArray⟩ : ByteArray)[n.toNat]? else none) = some (s[n.toNat]) := by
      rw [if_pos hb.1, getElem?_pos (⟨s.toArray⟩ : ByteArray) n.toNat (by simpa [ByteArray.size] using hlt)]
      rfl
    simp only [e, Sem.run]
    congr 3
    simp [sAt, hlt]
/-- A part of a text. -/
def cutS {γ : Type} (s : List γ) (lo hi : Int) : List γ := (s.take hi.toNat).drop lo.toNat
theorem run_sliceBound {P : Program} {w : World} {k : IntKind} {n : Int} {m : Nat} {c : BoundsCode} (h : 0 ≤ n ∧ n ≤ (m : Int)) : (Instr.sliceBound (.int k n) m c).run P w = .ok n.toNat w := by
  unfold Instr.sliceBound
  rw [run_bind]
  simp only [asIntOf, pure, Sem.run]
  rw [if_pos h]; rfl
theorem extract_list (s : List UInt8) (lo hi : Nat) (h : hi ≤ s.length) : (⟨s.toArray⟩ : ByteArray).extract lo hi = ⟨((s.take hi).drop lo).toArray⟩ := by
  apply ByteArray.ext
  apply Array.ext'
  simp [ByteArray.data_extract, List.extract_eq_take_drop, List.drop_take]
theorem vA {k1 k2 : IntKind} {s : Str} {m n : Int} (hx : Opd Γ x (D RStr s)) (hy : Opd Γ y (D (RInt k1) m)) (hz : Opd Γ z (D (RInt k2) n)) (hu : X.P.underlying t = some .string) (hb : 0 ≤ m ∧ m ≤ n ∧ n ≤ (s.length : Int)) (hd : Nat.blt d X.n = true := by rfl) :
    ST X Γ Ω ⟨some d, .slice t x (some y) (some z) none, ty, pos, af, g⟩ ((d, D RStr (cutS s m n)) :: Γ) Ω :=
  ST.val0 rfl hd fun a w gs own hs => by
    obtain ⟨h1, h2⟩ := RStr.val_iff.1 (hx.get hs)
    obtain ⟨h3, _⟩ := RInt.val_iff.1 (hy.get hs)
    obtain ⟨h4, _⟩ := RInt.val_iff.1 (hz.get hs)
    refine ⟨.string ⟨(cutS s m n).toArray⟩, ?_, ro_str (by unfold cutS; simp; omega)⟩
    simp only [execOp, Option.map_some, Option.map_none, h1, h3, h4]
    rw [run_value]
    simp only [Instr.sliceAt, run_bind, run_underlying hu, Instr.slice, Instr.sliceBounds, pure, Sem.run, Option.isSome_none, Bool.false_eq_true, if_false, ByteArray.size, List.size_toArray]
    rw [run_sliceBound ⟨by omega, by omega⟩]
    simp only []
    rw [run_sliceBound ⟨by omega, by omega⟩]
    simp only [Sem.run, cutS]
    rw [extract_list _ _ _ (by omega)]
theorem vc {k1 : IntKind} {s : Str} {m : Int} (hx : Opd Γ x (D RStr s)) (hy : Opd Γ y (D (RInt k1) m)) (hu : X.P.underlying t = some .string) (hb : 0 ≤ m ∧ m ≤ (s.length : Int)) (hd : Nat.blt d X.n = true := by rfl) :
    ST X Γ Ω ⟨some d, .slice t x (some y) none none, ty, pos, af, g⟩ ((d, D RStr (s.drop m.toNat)) :: Γ) Ω :=
  ST.val0 rfl hd fun a w gs own hs => by
    obtain ⟨h1, h2⟩ := RStr.val_iff.1 (hx.get hs)
    obtain ⟨h3, _⟩ := RInt.val_iff.1 (hy.get hs)
    refine ⟨.string ⟨(s.drop m.toNat).toArray⟩, ?_, ro_str (by simp; omega)⟩
    simp only [execOp, Option.map_some, Option.map_none, h1, h3]
    rw [run_value]
    simp only [Instr.sliceAt, run_bind, run_underlying hu, Instr.slice, Instr.sliceBounds, pure, Sem.run, Option.isSome_none, Bool.false_eq_true, if_false, ByteArray.size, List.size_toArray]
    rw [run_sliceBound ⟨by omega, by omega⟩]
    simp only [Sem.run]
    rw [extract_list _ _ _ (Nat.le_refl _), List.take_length]
theorem qP {k2 : IntKind} {s : Str} {n : Int} (hx : Opd Γ x (D RStr s)) (hz : Opd Γ z (D (RInt k2) n)) (hu : X.P.underlying t = some .string) (hb : 0 ≤ n ∧ n ≤ (s.length : Int)) (hd : Nat.blt d X.n = true := by rfl) :
    ST X Γ Ω ⟨some d, .slice t x none (some z) none, ty, pos, af, g⟩ ((d, D RStr (s.take n.toNat)) :: Γ) Ω :=
  ST.val0 rfl hd fun a w gs own hs => by
    obtain ⟨h1, h2⟩ := RStr.val_iff.1 (hx.get hs)
    obtain ⟨h4, _⟩ := RInt.val_iff.1 (hz.get hs)
    refine ⟨.string ⟨(s.take n.toNat).toArray⟩, ?_, ro_str (by simp; omega)⟩
    simp only [execOp, Option.map_some, Option.map_none, h1, h4]
    rw [run_value]
    simp only [Instr.sliceAt, run_bind, run_underlying hu, Instr.slice, Instr.sliceBounds, pure, Sem.run, Option.isSome_none, Bool.false_eq_true, if_false, ByteArray.size, List.size_toArray]
    rw [run_sliceBound ⟨by omega, by omega⟩]
    simp only [Sem.run]
    rw [extract_list _ _ _ (by omega), List.drop_zero]
theorem Row.part {S : Nat → Prop} {w : World} {b o : Nat} {l : List α} (h : Row R S w b o l) (lo hi : Nat) : Row R S w b (o + lo * R.size) ((l.take hi).drop lo) := by
  intro j hj
  simp at hj
  obtain ⟨ecs, h1, h2⟩ := h (lo + j) (by omega)
  refine ⟨ecs, by simpa using h1, ?_⟩
  rw [show o + lo * R.size + j * R.size = o + (lo + j) * R.size from by rw [Nat.add_mul]; omega]
  exact h2
theorem cut_slice {S : Nat → Prop} {w : World} {ao : Option Addr} {c lo hi : Nat} {l : List α} (hlo : lo ≤ hi) (hhi : hi ≤ l.length) (hc : l.length ≤ c) (hm : l.length ≤ maxS)
    (h : l = [] ∨ ∃ b o, ao = some ⟨b, o, none⟩ ∧ Still S w b ∧ Row R S w b o l) (m : Nat) (hm2 : hi ≤ m) :
    (RSlice R).val S w (.slice (if m = lo then ao else ao.map (·.add (lo * R.size))) (hi - lo) (m - lo)) ((l.take hi).drop lo) := by
  refine RSlice.val_iff.2 ⟨_, _, _, rfl, by simp; omega, by omega, by omega, ?_⟩
  by_cases he : (l.take hi).drop lo = []
  · exact .inl he
  · right
    have hne : ¬ m = lo := by
      intro k; apply he
      have : hi = lo := by omega
      subst this
      simp
    rcases h with rfl | ⟨b, o, rfl, h2, h3⟩
    · simp at he
    · rw [if_neg hne]
      exact ⟨b, o + lo * R.size, by simp [addr_add], h2, h3.part lo hi⟩
theorem vW {E : Nat} {k1 k2 : IntKind} {l : List α} {m n : Int} (hx : Opd Γ x (D (RSlice R) l)) (hy : Opd Γ y (D (RInt k1) m)) (hz : Opd Γ z (D (RInt k2) n)) (hu : X.P.underlying t = some (.slice E)) (hE : TyOK X.P E R) (hb : 0 ≤ m ∧ m ≤ n ∧ n ≤ (l.length : Int)) (hd : Nat.blt d X.n = true := by rfl) :
    ST X Γ Ω ⟨some d, .slice t x (some y) (some z) none, ty, pos, af, g⟩ ((d, D (RSlice R) (cutS l m n)) :: Γ) Ω :=
  ST.val0 rfl hd fun a w gs own hs => by
    obtain ⟨ao, n', c, h1, h2, hc, hm, h5⟩ := RSlice.val_iff.1 (hx.get hs)
    subst h2
    obtain ⟨h3, _⟩ := RInt.val_iff.1 (hy.get hs)
    obtain ⟨h4, _⟩ := RInt.val_iff.1 (hz.get hs)
    refine ⟨_, ?_, cut_slice (lo := m.toNat) (hi := n.toNat) (by omega) (by omega) hc hm h5 c (by omega)⟩
    simp only [execOp, Option.map_some, Option.map_none, h1, h3, h4]
    rw [run_value]
    simp only [Instr.sliceAt, run_bind, run_underlying hu, Instr.slice, Instr.sliceBounds, pure, Sem.run, Option.isSome_none, Bool.false_eq_true, if_false]
    rw [run_sliceBound ⟨by omega, by omega⟩]
    simp only []
    rw [run_sliceBound ⟨by omega, by omega⟩]
    simp only [Sem.run, hE.run_size]
theorem vV {E : Nat} {k1 : IntKind} {l : List α} {m : Int} (hx : Opd Γ x (D (RSlice R) l)) (hy : Opd Γ y (D (RInt k1) m)) (hu : X.P.underlying t = some (.slice E)) (hE : TyOK X.P E R) (hb : 0 ≤ m ∧ m ≤ (l.length : Int)) (hd : Nat.blt d X.n = true := by rfl) :
    ST X Γ Ω ⟨some d, .slice t x (some y) none none, ty, pos, af, g⟩ ((d, D (RSlice R) (l.drop m.toNat)) :: Γ) Ω :=
  ST.val0 rfl hd fun a w gs own hs => by
    obtain ⟨ao, n', c, h1, h2, hc, hm, h5⟩ := RSlice.val_iff.1 (hx.get hs)
    subst h2
    obtain ⟨h3, _⟩ := RInt.val_iff.1 (hy.get hs)
    have := cut_slice (lo := m.toNat) (hi := l.length) (by omega) (Nat.le_refl _) hc hm h5 c hc
    rw [List.take_length] at this
    refine ⟨_, ?_, this⟩
    simp only [execOp, Option.map_some, Option.map_none, h1, h3]
    rw [run_value]
    simp only [Instr.sliceAt, run_bind, run_underlying hu, Instr.slice, Instr.sliceBounds, pure, Sem.run, Option.isSome_none, Bool.false_eq_true, if_false]
    rw [run_sliceBound ⟨by omega, by omega⟩]
    simp only [Sem.run, hE.run_size]
theorem qZ {E : Nat} {k2 : IntKind} {l : List α} {n : Int} (hx : Opd Γ x (D (RSlice R) l)) (hz : Opd Γ z (D (RInt k2) n)) (hu : X.P.underlying t = some (.slice E)) (hE : TyOK X.P E R) (hb : 0 ≤ n ∧ n ≤ (l.length : Int)) (hd : Nat.blt d X.n = true := by rfl) :
    ST X Γ Ω ⟨some d, .slice t x none (some z) none, ty, pos, af, g⟩ ((d, D (RSlice R) (l.take n.toNat)) :: Γ) Ω :=
  ST.val0 rfl hd fun a w gs own hs => by
    obtain ⟨ao, n', c, h1, h2, hc, hm, h5⟩ := RSlice.val_iff.1 (hx.get hs)
    subst h2
    obtain ⟨h4, _⟩ := RInt.val_iff.1 (hz.get hs)
    have := cut_slice (lo := 0) (hi := n.toNat) (by omega) (by omega) hc hm h5 c (by omega)
    rw [List.drop_zero] at this
    refine ⟨_, ?_, this⟩
    simp only [execOp, Option.map_some, Option.map_none, h1, h4]
    rw [run_value]
    simp only [Instr.sliceAt, run_bind, run_underlying hu, Instr.slice, Instr.sliceBounds, pure, Sem.run, Option.isSome_none, Bool.false_eq_true, if_false]
    rw [run_sliceBound ⟨by omega, by omega⟩]
    simp only [Sem.run, hE.run_size]
/-- An element of a list. -/
def nth {γ : Type} [Inhabited γ] (l : List γ) (n : Int) : γ := l.getD n.toNat default
theorem qj [Inhabited α] {E : Nat} {k : IntKind} {l : List α} {n : Int} (hx : Opd Γ x (D (RSlice R) l)) (hy : Opd Γ y (D (RInt k) n)) (hu : X.P.underlying t = some (.slice E)) (hE : TyOK X.P E R) (hb : 0 ≤ n ∧ n < (l.length : Int)) (hd : Nat.blt d X.n = true := by rfl) :
    ST X Γ Ω ⟨some d, .indexAddr t x y, ty, pos, af, g⟩ ((d, D (RPtr R) (nth l n)) :: Γ) Ω :=
  ST.val0 rfl hd fun a w gs own hs => by
    obtain ⟨ao, n', c, h1, h2, hc, hm, h5⟩ := RSlice.val_iff.1 (hx.get hs)
    subst h2
    obtain ⟨h3, _⟩ := RInt.val_iff.1 (hy.get hs)
    have hlt : n.toNat < l.length := by omega
    rcases h5 with rfl | ⟨b, o, rfl, h6, h7⟩
    · simp at hlt
    obtain ⟨ecs, h8, h9⟩ := h7 n.toNat hlt
    refine ⟨.pointer (some ⟨b, o + n.toNat * R.size, none⟩), ?_, RPtr.val_iff.2 ⟨b, _, ecs, rfl, ?_, h6, h9⟩⟩
    · simp only [execOp, h1, h3]
      rw [run_value]
      simp only [Instr.indexAt, asIntOf, run_bind, run_underlying hu, pure, Sem.run]
      rw [if_pos hb]
      simp only [run_bind, hE.run_size, Sem.run, addr_add]
    · simpa [nth, hlt] using h8
end
end Go.Trw
