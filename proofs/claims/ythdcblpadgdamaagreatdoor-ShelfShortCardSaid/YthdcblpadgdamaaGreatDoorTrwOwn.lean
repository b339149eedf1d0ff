/- Own work: structs compared; slice literals; slices of the call's own: made, appended to, read, written, let go. -/
import Derived.Test.YthdcblpadgdamaaGreatDoorTrwDraw
import Derived.Laws.StructEq
set_option linter.all false
namespace Go.Trw
open Go
/-! ### 1. Structs compared -/
structure EqOK (P : Program) (k : Nat) (T : TypeId) {α : Type} [DecidableEq α] (R : RT α) : Prop where
  run : ∀ n S w vx vy x y, R.val S w vx x → R.val S w vy y → (Op.equalIn (n + k) T vx vy).run P w = .ok (decide (x = y)) w
theorem EqOK.up {P : Program} {k k' : Nat} {T : TypeId} {α : Type} [DecidableEq α] {R : RT α} (h : EqOK P k T R) (hk : k ≤ k') : EqOK P k' T R := ⟨fun n S w vx vy x y hx hy => by
  rw [show n + k' = (n + (k' - k)) + k from by omega]; exact h.run _ S w vx vy x y hx hy⟩
theorem EqOK.int {P : Program} {T k : Nat} {K : IntKind} (hu : P.underlying T = some (.int K)) : EqOK P (k + 1) T (RInt K) := ⟨fun n S w vx vy x y hx hy => by
  obtain ⟨rfl, _⟩ := RInt.val_iff.1 hx
  obtain ⟨rfl, _⟩ := RInt.val_iff.1 hy
  rw [← Nat.add_assoc, run_equalIn_int w (n + k) T K K x y hu]; rfl⟩
theorem EqOK.bool {P : Program} {T k : Nat} (hu : P.underlying T = some .bool) : EqOK P (k + 1) T RBool := ⟨fun n S w vx vy x y hx hy => by
  have h1 := RBool.val_iff.1 hx; subst h1
  have h2 := RBool.val_iff.1 hy; subst h2
  rw [← Nat.add_assoc, run_equalIn_bool' w (n + k) T x y hu]; rfl⟩
theorem EqOK.str {P : Program} {T k : Nat} (hu : P.underlying T = some .string) : EqOK P (k + 1) T RStr := ⟨fun n S w vx vy x y hx hy => by
  obtain ⟨rfl, _⟩ := RStr.val_iff.1 hx
  obtain ⟨rfl, _⟩ := RStr.val_iff.1 hy
  rw [← Nat.add_assoc, run_equalIn_string w (n + k) T _ _ hu, ba_toList, ba_toList]
  show Result.ok (x == y) w = _
  congr 1
  by_cases h : x = y
  · subst h; simp
  · simp [h]⟩
/-- Fields compared, one behind the other. -/
structure EqFs (P : Program) (k : Nat) (fs : List Field) (off : Nat) {α : Type} [DecidableEq α] (R : RT α) : Prop where
  run : ∀ n S w (xs ys : Array Value) x y, R.rep S w (xs.toList.drop off) x → R.rep S w (ys.toList.drop off) y → (Op.eqFields (n + k) xs ys fs).run P w = .ok (decide (x = y)) w
theorem EqFs.nil {P : Program} {k off : Nat} : EqFs P k [] off RNil := ⟨fun n S w xs ys x y _ _ => by
  simp [Op.eqFields, run_pure]⟩
theorem EqFs.cons {P : Program} {k off : Nat} {f : Field} {fs : List Field} {α β : Type} [DecidableEq α] [DecidableEq β] {R : RT α} {T : RT β} (hn : (f.name == "_") = false) (ho : f.offset = off) (hT : TyOK P f.type R) (he : EqOK P k f.type R) (hr : EqFs P k fs (off + R.size) T) :
    EqFs P k (f :: fs) off (RCons R T) := ⟨fun n S w xs ys x y hx hy => by
  have hne : f.name ≠ "_" := by simpa using hn
  simp only [Op.eqFields]
  rw [if_pos hne]
  have hx1 : R.rep S w ((xs.toList.drop f.offset).take R.size) x.1 := by rw [ho]; exact hx.1
  have hy1 : R.rep S w ((ys.toList.drop f.offset).take R.size) y.1 := by rw [ho]; exact hy.1
  rw [Trw.run_bind, run_part hT hx1]
  simp only []
  rw [Trw.run_bind, run_part hT hy1]
  simp only []
  rw [Trw.run_bind, he.run n S w _ _ _ _ (RT.val_of hx1) (RT.val_of hy1)]
  simp only []
  obtain ⟨x1, x2⟩ := x
  obtain ⟨y1, y2⟩ := y
  by_cases h : x1 = y1
  · simp only [h, decide_true, Bool.not_true, Bool.false_eq_true, if_false, Prod.mk.injEq, true_and]
    have hx2 := hx.2
    have hy2 := hy.2
    rw [List.drop_drop] at hx2 hy2
    exact hr.run n S w xs ys x2 y2 hx2 hy2
  · simp [h, Trw.run_pure]⟩
theorem EqOK.struct {P : Program} {k T : Nat} {fs : Array Field} {α β : Type} [DecidableEq α] [DecidableEq β] {R : RT β} {f : α → β} (hu : P.underlying T = some (.struct fs)) (hp : P.stoodInHeld T = false) (hR : R.agg = true) (hf : EqFs P k fs.toList 0 R) (hinj : ∀ x y, f x = f y → x = y) :
    EqOK P (k + 1) T (RMap f R) := ⟨fun n S w vx vy x y hx hy => by
  obtain ⟨xs, rfl, h1⟩ := hx.1 hR
  obtain ⟨ys, rfl, h2⟩ := hy.1 hR
  have hfo : P.fieldsOf T = fs := by simp [Program.fieldsOf, hu]
  rw [← Nat.add_assoc, run_equalIn_struct w (n + k) T xs ys (by rw [hfo]; exact hu) hp, hfo]
  rw [hf.run n S w xs ys (f x) (f y) (by rw [List.drop_zero]; exact h1) (by rw [List.drop_zero]; exact h2)]
  congr 1
  exact decide_eq_decide.2 ⟨hinj x y, fun h => by rw [h]⟩⟩
section
variable {X : Ctx} {Γ : Gam} {Ω : Omg} {α β : Type} {R : RT α} {Rf : RT β} {x y z : Operand} {d i off t t2 ty T : Nat} {u : α} {pos : String} {af : Array Edge} {g : Option (Nat × Bool)}
theorem vp [DecidableEq α] {k : Nat} {u1 u2 : α} (hx : Opd Γ x (D R u1)) (hy : Opd Γ y (D R u2)) (he : EqOK X.P k T R) (hR : R.agg = true := by rfl) (hk : Nat.ble k 10000 = true := by decide) (hg : X.P.eqGuardType X.P.depth T = false := by kernel_rfl) (hd : Nat.blt d X.n = true := by rfl) :
    ST X Γ Ω ⟨some d, .binOp .eql T x y t2, ty, pos, af, g⟩ ((d, D RBool (decide (u1 = u2))) :: Γ) Ω :=
  ST.val0 rfl hd fun a w gs own hs => by
    have hx' := hx.get hs
    have hy' := hy.get hs
    obtain ⟨xs, h1, _⟩ := hx'.1 hR
    obtain ⟨ys, h2, _⟩ := hy'.1 hR
    have hk' : k ≤ 10000 := by simpa [Nat.ble_eq] using hk
    have hr := he.run (10000 - k) _ w _ _ _ _ hx' hy'
    rw [Nat.sub_add_cancel hk', h1, h2] at hr
    refine ⟨.bool (decide (u1 = u2)), ?_, ro_bool⟩
    simp only [execOp, h1, h2]
    rw [run_value, Trw.run_bind, run_eqGuard_agg w .eql T x y xs ys hg]
    simp only []
    rw [run_eql_struct, hr]; rfl
theorem qS [DecidableEq α] {k : Nat} {u1 u2 : α} (hx : Opd Γ x (D R u1)) (hy : Opd Γ y (D R u2)) (he : EqOK X.P k T R) (hR : R.agg = true := by rfl) (hk : Nat.ble k 10000 = true := by decide) (hg : X.P.eqGuardType X.P.depth T = false := by kernel_rfl) (hd : Nat.blt d X.n = true := by rfl) :
    ST X Γ Ω ⟨some d, .binOp .neq T x y t2, ty, pos, af, g⟩ ((d, D RBool (!decide (u1 = u2))) :: Γ) Ω :=
  ST.val0 rfl hd fun a w gs own hs => by
    have hx' := hx.get hs
    have hy' := hy.get hs
    obtain ⟨xs, h1, _⟩ := hx'.1 hR
    obtain ⟨ys, h2, _⟩ := hy'.1 hR
    have hk' : k ≤ 10000 := by simpa [Nat.ble_eq] using hk
    have hr := he.run (10000 - k) _ w _ _ _ _ hx' hy'
    rw [Nat.sub_add_cancel hk', h1, h2] at hr
    refine ⟨.bool (!decide (u1 = u2)), ?_, ro_bool⟩
    simp only [execOp, h1, h2]
    rw [run_value, Trw.run_bind, run_eqGuard_agg w .neq T x y xs ys hg]
    simp only []
    rw [run_neq_struct, hr]; rfl
theorem vn {p q : Bool} (hx : Opd Γ x (D RBool p)) (hy : Opd Γ y (D RBool q)) (hu : X.P.underlying T = some .bool) (hd : Nat.blt d X.n = true := by rfl) :
    ST X Γ Ω ⟨some d, .binOp .eql T x y t2, ty, pos, af, g⟩ ((d, D RBool (p == q)) :: Γ) Ω :=
  ST.val0 rfl hd fun a w gs own hs => by
    have h1 := RBool.val_iff.1 (hx.get hs)
    have h2 := RBool.val_iff.1 (hy.get hs)
    refine ⟨.bool (p == q), ?_, ro_bool⟩
    simp only [execOp, h1, h2]
    rw [run_value, Trw.run_bind, run_eqGuard_bool]
    simp only [binOp, Op.equal, Op.maxDepth]
    rw [Trw.run_bind, run_equalIn_bool' w 9999 T p q hu]; rfl
theorem vB {p q : Bool} (hx : Opd Γ x (D RBool p)) (hy : Opd Γ y (D RBool q)) (hu : X.P.underlying T = some .bool) (hd : Nat.blt d X.n = true := by rfl) :
    ST X Γ Ω ⟨some d, .binOp .neq T x y t2, ty, pos, af, g⟩ ((d, D RBool (p != q)) :: Γ) Ω :=
  ST.val0 rfl hd fun a w gs own hs => by
    have h1 := RBool.val_iff.1 (hx.get hs)
    have h2 := RBool.val_iff.1 (hy.get hs)
    refine ⟨.bool (p != q), ?_, ro_bool⟩
    simp only [execOp, h1, h2]
    rw [run_value, Trw.run_bind, run_eqGuard_bool]
    simp only [binOp, Op.equal, Op.maxDepth]
    rw [Trw.run_bind, run_equalIn_bool' w 9999 T p q hu]; rfl
theorem run_minmax {P : Program} {w : World} {a : Act} {k : IntKind} {m n : Int} {b : Bool} {at1 : Array Nat} {pos : String} {af : Array Edge} {g : Option (Nat × Bool)} {dst : Option Nat} (h1 : a.eval x = .int k m) (h2 : a.eval y = .int k n) :
    (execOp a.eval ⟨dst, .call ⟨.builtin (if b then .min else .max), #[x, y], at1⟩, ty, pos, af, g⟩).run P w = .ok (.value (.int k (if b then (if n < m then n else m) else (if m < n then n else m)))) w := by
  cases b
  · simp only [execOp, resolve, invoke, builtin, Trw.run_bind, Trw.run_pure, List.map_toArray, List.map_cons, List.map_nil, h1, h2, Builtin.max_, List.foldlM_cons, List.foldlM_nil, Builtin.max2]
    simp [Builtin.max_, Builtin.max2, Trw.run_bind, Trw.run_pure]
  · simp only [execOp, resolve, invoke, builtin, Trw.run_bind, Trw.run_pure, List.map_toArray, List.map_cons, List.map_nil, h1, h2, Builtin.min_, List.foldlM_cons, List.foldlM_nil, Builtin.min2]
    simp [Builtin.min_, Builtin.min2, Trw.run_bind, Trw.run_pure]
theorem vJ {k : IntKind} {m n : Int} (hx : Opd Γ x (D (RInt k) m)) (hy : Opd Γ y (D (RInt k) n)) {at1 : Array Nat} (hd : Nat.blt d X.n = true := by rfl) :
    ST X Γ Ω ⟨some d, .call ⟨.builtin .min, #[x, y], at1⟩, ty, pos, af, g⟩ ((d, D (RInt k) (min m n)) :: Γ) Ω :=
  ST.val0 rfl hd fun a w gs own hs => by
    obtain ⟨h1, k1⟩ := RInt.val_iff.1 (hx.get hs)
    obtain ⟨h2, k2⟩ := RInt.val_iff.1 (hy.get hs)
    have e : (if n < m then n else m) = min m n := by rw [Int.min_def]; split <;> split <;> omega
    refine ⟨.int k (min m n), ?_, RInt.val_iff.2 ⟨rfl, ?_⟩⟩
    · rw [← e]; exact run_minmax (b := true) h1 h2
    · rcases Int.le_total m n with h | h
      · rw [Int.min_eq_left h]; exact k1
      · rw [Int.min_eq_right h]; exact k2
theorem vI {k : IntKind} {m n : Int} (hx : Opd Γ x (D (RInt k) m)) (hy : Opd Γ y (D (RInt k) n)) {at1 : Array Nat} (hd : Nat.blt d X.n = true := by rfl) :
    ST X Γ Ω ⟨some d, .call ⟨.builtin .max, #[x, y], at1⟩, ty, pos, af, g⟩ ((d, D (RInt k) (max m n)) :: Γ) Ω :=
  ST.val0 rfl hd fun a w gs own hs => by
    obtain ⟨h1, k1⟩ := RInt.val_iff.1 (hx.get hs)
    obtain ⟨h2, k2⟩ := RInt.val_iff.1 (hy.get hs)
    have e : (if m < n then n else m) = max m n := by rw [Int.max_def]; split <;> split <;> omega
    refine ⟨.int k (max m n), ?_, RInt.val_iff.2 ⟨rfl, ?_⟩⟩
    · rw [← e]; exact run_minmax (b := false) h1 h2
    · rcases Int.le_total m n with h | h
      · rw [Int.max_eq_right h]; exact k2
      · rw [Int.max_eq_left h]; exact k1
/-! ### 2. Rows of cells -/
/-- A list lies in a list of cells. -/
def RowC {α : Type} (R : RT α) (S : Nat → Prop) (w : World) (cs : List Value) (l : List α) : Prop :=
  ∀ i (h : i < l.length), R.rep S w ((cs.drop (i * R.size)).take R.size) l[i]
theorem RowC.later {S S' : Nat → Prop} {w w' : World} {cs : List Value} {l : List α} (h : RowC R S w cs l) (hl : Later S w S' w') : RowC R S' w' cs l := fun i hi => R.stable (h i hi) hl
theorem RowC.row {S : Nat → Prop} {w : World} {b o : Nat} {cs : List Value} {l : List α} (h : RowC R S w cs l) (hc : CellsAt w b o cs) : Row R S w b o l :=
  fun i hi => ⟨_, h i hi, hc.part _ _⟩
theorem drop_app {α : Type} {c1 c2 : List α} {n m : Nat} (h : n = c1.length + m) : (c1 ++ c2).drop n = c2.drop m := by
  subst h
  induction c1 with
  | nil => simp
  | cons x c ih => simpa [Nat.succ_add] using ih
theorem Row.cells {S : Nat → Prop} {w : World} {b o : Nat} : ∀ {l : List α}, Row R S w b o l → ∃ cs, cs.length = l.length * R.size ∧ CellsAt w b o cs ∧ RowC R S w cs l := by
  intro l
  induction l generalizing o with
  | nil => intro _; exact ⟨[], by simp, fun j hj => absurd hj (Nat.not_lt_zero j), fun i hi => absurd hi (Nat.not_lt_zero i)⟩
  | cons x l ih =>
    intro h
    obtain ⟨e0, h1, h2⟩ := h 0 (by simp)
    have htl : Row R S w b (o + R.size) l := by
      intro j hj
      obtain ⟨ecs, k1, k2⟩ := h (j + 1) (by simp; omega)
      refine ⟨ecs, by simpa using k1, ?_⟩
      rw [show o + R.size + j * R.size = o + (j + 1) * R.size from by rw [Nat.add_mul]; omega]
      exact k2
    obtain ⟨cs, k1, k2, k3⟩ := ih htl
    have hl := R.len h1
    refine ⟨e0 ++ cs, by simp [hl, k1, Nat.add_mul]; omega, ?_, ?_⟩
    · intro j hj
      by_cases hjl : j < e0.length
      · rw [List.getElem_append_left hjl]
        have := h2 j hjl
        simpa using this
      · rw [List.getElem_append_right (by omega)]
        have := k2 (j - e0.length) (by simp at hj; omega)
        rw [show o + R.size + (j - e0.length) = o + j from by omega] at this
        exact this
    · intro j hj
      cases j with
      | zero => simpa [← hl] using h1
      | succ j =>
        have := k3 j (by simpa using hj)
        have e : ((e0 ++ cs).drop ((j + 1) * R.size)) = cs.drop (j * R.size) := by
          exact drop_app (by rw [Nat.add_mul, Nat.one_mul, hl, Nat.add_comm])
        rw [e]; simpa using this
theorem RowC.append {S : Nat → Prop} {w : World} {c1 c2 c3 : List Value} {l m : List α} (h1 : c1.length = l.length * R.size) (h2 : c2.length = m.length * R.size) (k1 : RowC R S w c1 l) (k2 : RowC R S w c2 m) : RowC R S w (c1 ++ c2 ++ c3) (l ++ m) := by
  intro j hj
  by_cases hjl : j < l.length
  · rw [List.getElem_append_left hjl]
    have := k1 j hjl
    have hle : (j + 1) * R.size ≤ l.length * R.size := Nat.mul_le_mul_right _ hjl
    rw [Nat.add_mul, Nat.one_mul] at hle
    rw [List.append_assoc, List.drop_append_of_le_length (by omega), List.take_append_of_le_length (by simp; omega)]
    exact this
  · rw [List.getElem_append_right (by omega)]
    simp at hj
    have := k2 (j - l.length) (by omega)
    have hle : (j - l.length + 1) * R.size ≤ m.length * R.size := Nat.mul_le_mul_right _ (by omega)
    rw [Nat.add_mul, Nat.one_mul] at hle
    have e1 : j * R.size = c1.length + (j - l.length) * R.size := by
      rw [h1, ← Nat.add_mul]; congr 1; omega
    rw [List.append_assoc, drop_app e1, List.drop_append_of_le_length (by omega), List.take_append_of_le_length (by simp; omega)]
    exact this
theorem RowC.mono {S : Nat → Prop} {w : World} {cs cs' : List Value} {l : List α} (h : RowC R S w cs l) (he : cs'.take (l.length * R.size) = cs.take (l.length * R.size)) : RowC R S w cs' l := by
  intro j hj
  have := h j hj
  have hle : (j + 1) * R.size ≤ l.length * R.size := Nat.mul_le_mul_right _ hj
  rw [Nat.add_mul, Nat.one_mul] at hle
  have e : ∀ cs : List Value, (cs.drop (j * R.size)).take R.size = ((cs.take (l.length * R.size)).drop (j * R.size)).take R.size := by
    intro cs
    rw [List.drop_take, List.take_take, Nat.min_eq_left (by omega)]
  rw [e, he, ← e]; exact this
/-! ### 3. Slice literals -/
/-- The elements of a literal, from place k on. -/
inductive Lits (Γ : Gam) {α : Type} (R : RT α) : Nat → List (Nat × Operand) → List α → Prop
  | nil {k} : Lits Γ R k [] []
  | cons {k x u ps l} : Opd Γ x (D R u) → Lits Γ R (k + 1) ps l → Lits Γ R k ((k, x) :: ps) (u :: l)
theorem Lits.run {S : Nat → Prop} {w : World} {gs : Nat → Option Value} {a : Act} (ha : ∀ t e, Γ.lookup t = some e → e.sem gs S w (a.tmps.getD t undef)) :
    ∀ {ps : List (Nat × Operand)} {k : Nat} {l : List α} {cells : Array Value}, Lits Γ R k ps l → (k + l.length) * R.size ≤ cells.size →
    ∃ mc, mc.length = l.length * R.size ∧ RowC R S w mc l ∧ (∀ v ∈ mc, cellv v = true) ∧
      Instr.fill (fun i => some (i * R.size, R.size)) cells (ps.map fun p => (p.1, a.eval p.2)) = some (splice cells.toList (k * R.size) mc).toArray := by
  intro ps k l cells h
  induction h generalizing cells with
  | nil => intro _; exact ⟨[], by simp, fun i hi => absurd hi (Nat.not_lt_zero i), fun v hv => by simp at hv, by simp [Instr.fill, splice]⟩
  | cons hx ht ih =>
    rename_i k x u ps l
    intro hsz
    simp only [List.length_cons] at hsz
    have hv : R.val S w (a.eval x) u := hx gs S w a ha
    have hr := RT.val_cells hv
    have hl := R.len hr
    simp at hl
    have hmul : (k + (l.length + 1)) * R.size = k * R.size + (l.length * R.size + R.size) := by rw [Nat.add_mul, Nat.add_mul, Nat.one_mul]
    have hspl := fill_splice (k * R.size) (a.eval x).cells.toList 0 cells (by simp; omega)
    obtain ⟨mc, m1, m2, m3, m4⟩ := ih (cells := ((a.eval x).cells.toList.zipIdx 0).foldl (fun cs (p : Value × Nat) => cs.setIfInBounds (k * R.size + p.2) p.1) cells)
      (by
        have e : (((a.eval x).cells.toList.zipIdx 0).foldl (fun cs (p : Value × Nat) => cs.setIfInBounds (k * R.size + p.2) p.1) cells).size = cells.size := by
          rw [← Array.length_toList, hspl, splice_length (by simp; omega)]; simp
        rw [e, Nat.add_mul, Nat.add_mul, Nat.one_mul]; omega)
    refine ⟨(a.eval x).cells.toList ++ mc, by simp [hl, m1, Nat.add_mul]; omega, ?_, ?_, ?_⟩
    · have h0 : RowC R S w (a.eval x).cells.toList [u] := by
        intro j hj
        simp at hj; subst hj
        show R.rep S w (((a.eval x).cells.toList.drop (0 * R.size)).take R.size) u
        rw [Nat.zero_mul, List.drop_zero, List.take_of_length_le (by simp [hl])]
        exact hr
      have := RowC.append (c3 := []) (l := [u]) (by simp [hl]) m1 h0 m2
      simpa using this
    · intro v hv
      rcases List.mem_append.1 hv with h | h
      · exact R.flat hr v h
      · exact m3 v h
    · simp only [List.map_cons, Instr.fill]
      rw [if_neg (by simp [hl]; omega)]
      have e0 : ((a.eval x).cells.zipIdx.foldl (fun cs (p : Value × Nat) => cs.setIfInBounds (k * R.size + p.2) p.1) cells) = (((a.eval x).cells.toList.zipIdx 0).foldl (fun cs (p : Value × Nat) => cs.setIfInBounds (k * R.size + p.2) p.1) cells) := by
        rw [← Array.foldl_toList, Array.toList_zipIdx]
      rw [e0, m4, hspl]
      congr 2
      simp only [Nat.add_zero, splice]
      have hk1 : (k + 1) * R.size = k * R.size + R.size := by rw [Nat.add_mul, Nat.one_mul]
      have h1 : ((cells.toList.take (k * R.size) ++ (a.eval x).cells.toList ++ cells.toList.drop (k * R.size + (a.eval x).cells.toList.length)).take ((k + 1) * R.size)) = cells.toList.take (k * R.size) ++ (a.eval x).cells.toList := by
        rw [List.take_append_of_le_length (by simp [hl]; omega)]
        rw [List.take_of_length_le (by simp [hl]; omega)]
      have h2 : ((cells.toList.take (k * R.size) ++ (a.eval x).cells.toList ++ cells.toList.drop (k * R.size + (a.eval x).cells.toList.length)).drop ((k + 1) * R.size + mc.length)) = cells.toList.drop (k * R.size + ((a.eval x).cells.toList ++ mc).length) := by
        have hlen : (cells.toList.take (k * R.size) ++ (a.eval x).cells.toList).length = (k + 1) * R.size := by simp [hl]; omega
        rw [drop_app (c1 := cells.toList.take (k * R.size) ++ (a.eval x).cells.toList) (m := mc.length) (by rw [hlen]), List.drop_drop]
        congr 1
        simp [hl]; omega
      rw [h1, h2]; simp
/-- What a slice literal makes. -/
theorem run_buildSlice {E n : Nat} {ps : List (Nat × Operand)} {l : List α} (hu : X.P.underlying T = some (.slice E)) (hE : TyOK X.P E R) {zv : Value} (hz : (X.P.info? E).bind (·.zero) = some zv) (hl : Lits Γ R 0 ps l) (hn : l.length = n) (hb : Nat.ble (n * R.size) 16777216 = true)
    {a : Act} {w : World} {gs : Nat → Option Value} {own : Nat → Option Nat} (hs : SatD X Γ Ω a w gs own) :
    ∃ cells : Array Value, cells.size = l.length * R.size ∧ RowC R (X.S own) w cells.toList l ∧
      (execOp a.eval ⟨some d, .buildSlice T n ps.toArray, ty, pos, af, g⟩).run X.P w = .ok (.value (.slice (some ⟨w.heap.size, 0, none⟩) l.length l.length)) { w with heap := w.heap.push (.cells cells E) } := by
    subst hn
    have hb' : l.length * R.size ≤ 16777216 := by simpa [Nat.ble_eq] using hb
    have hfin : ∃ cells : Array Value, cells.size = l.length * R.size ∧ (do
        let zero ← if l.length * R.size = 0 then pure #[] else do pure (← zeroValue E).cells
        let some cells := Instr.fill (fun i => some (i * R.size, R.size)) ((Array.range (l.length * R.size)).map (zero[· % zero.size]!)) (ps.map fun p => (p.1, a.eval p.2)) | stuck "buildSlice: a part of the wrong size"
        pure (.slice (some (← newRow E cells)) l.length l.length) : Sem Value).run X.P w = .ok (.slice (some ⟨w.heap.size, 0, none⟩) l.length l.length) { w with heap := w.heap.push (.cells cells E) } ∧
        RowC R (X.S own) w cells.toList l := by
      have hgo : ∀ zc : Array Value, ∃ cells : Array Value, cells.size = l.length * R.size ∧ (do
        let some cells := Instr.fill (fun i => some (i * R.size, R.size)) ((Array.range (l.length * R.size)).map (zc[· % zc.size]!)) (ps.map fun p => (p.1, a.eval p.2)) | stuck "buildSlice: a part of the wrong size"
        pure (.slice (some (← newRow E cells)) l.length l.length) : Sem Value).run X.P w = .ok (.slice (some ⟨w.heap.size, 0, none⟩) l.length l.length) { w with heap := w.heap.push (.cells cells E) } ∧
        RowC R (X.S own) w cells.toList l := by
        intro zc
        obtain ⟨mc, m1, m2, m3, m4⟩ := hl.run hs.ent (cells := (Array.range (l.length * R.size)).map (zc[· % zc.size]!)) (by simp)
        have hspl : splice ((Array.range (l.length * R.size)).map (zc[· % zc.size]!)).toList (0 * R.size) mc = mc := by simp [splice, m1]
        rw [hspl] at m4
        refine ⟨mc.toArray, by simpa using m1, ?_, by simpa using m2⟩
        simp only [m4]
        simp only [newRow, Trw.run_bind, run_newObj, Trw.run_pure]
      by_cases h0 : l.length * R.size = 0
      · obtain ⟨cells, g1, g2, g3⟩ := hgo #[]
        refine ⟨cells, g1, ?_, g3⟩
        simp only [if_pos h0]
        rw [Trw.run_bind, Trw.run_pure]
        exact g2
      · obtain ⟨cells, g1, g2, g3⟩ := hgo zv.cells
        refine ⟨cells, g1, ?_, g3⟩
        simp only [if_neg h0]
        rw [Trw.run_bind, run_zeroValue hz]
        simp only []
        rw [Trw.run_bind, Trw.run_pure]
        exact g2
    obtain ⟨cells, h1, h2, h3⟩ := hfin
    refine ⟨cells, h1, h3, ?_⟩
    simp only [execOp]
    rw [run_value]
    have e : (Instr.buildSlice T l.length (ps.toArray.map fun p => (p.1, a.eval p.2))).run X.P w = .ok (.slice (some ⟨w.heap.size, 0, none⟩) l.length l.length) { w with heap := w.heap.push (.cells cells E) } := by
      unfold Instr.buildSlice
      rw [Trw.run_bind, Trw.run_underlying hu]
      simp only []
      rw [Trw.run_bind, hE.run_size]
      simp only []
      rw [if_neg (by omega)]
      have : (ps.toArray.map fun p => (p.1, a.eval p.2)).toList = ps.map fun p => (p.1, a.eval p.2) := by simp
      rw [this]
      exact h2
    rw [e]
theorem op_buildSlice {E n : Nat} {ps : List (Nat × Operand)} {l : List α} (hu : X.P.underlying T = some (.slice E)) (hE : TyOK X.P E R) {zv : Value} (hz : (X.P.info? E).bind (·.zero) = some zv) (hl : Lits Γ R 0 ps l) (hn : l.length = n) (hb : Nat.ble (n * R.size) 16777216 = true) (hb2 : Nat.ble n 16777216 = true) (hd : Nat.blt d X.n = true) :
    ST X Γ Ω ⟨some d, .buildSlice T n ps.toArray, ty, pos, af, g⟩ ((d, D (RSlice R) l) :: Γ) Ω :=
  ST.val rfl hd fun a w gs own hs => by
    obtain ⟨cells, h1, h3, h2⟩ := run_buildSlice (d := d) (ty := ty) (pos := pos) (af := af) (g := g) hu hE hz hl hn hb hs
    subst hn
    refine ⟨.slice (some ⟨w.heap.size, 0, none⟩) l.length l.length, { w with heap := w.heap.push (.cells cells E) }, h2, fut_push _ _, ?_⟩
    have hmax : l.length ≤ maxS := by
      have : l.length ≤ 16777216 := by simpa [Nat.ble_eq] using hb2
      exact Nat.le_trans this (by decide)
    refine RSlice.val_iff.2 ⟨_, _, _, rfl, rfl, Nat.le_refl _, hmax, .inr ⟨w.heap.size, 0, rfl, ⟨by simp, fun k => ?_⟩, ?_⟩⟩
    · rcases k with k | k
      · have := hs.olt _ k
        have := hs.fut.size
        omega
      · cases ho : own w.heap.size with
        | none => rw [ho] at k; cases k
        | some j => exact absurd (hs.ownok _ _ ho).1 (Nat.lt_irrefl _)
    · refine (h3.later (fut_push w _).later0).row (CellsAt.of_block (T := E) (f := (0, 0)) ?_)
      simp
end
end Go.Trw
