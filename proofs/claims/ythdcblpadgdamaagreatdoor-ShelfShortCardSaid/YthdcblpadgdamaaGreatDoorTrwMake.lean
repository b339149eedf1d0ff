/- Own work: slices made by make. -/
import Derived.Test.YthdcblpadgdamaaGreatDoorTrwHole
import Derived.Laws.MakeOwn
import Derived.Laws.BytesArg
set_option linter.all false
namespace Go.Trw
open Go
theorem RowC.made {α : Type} {R : RT α} {S : Nat → Prop} {w : World} {zv : Array Value} {z : α} (hz : R.rep S w zv.toList z) {m : Nat} {n : Nat} (hn : n ≤ m) : RowC R S w (madeCells zv (m * R.size)).toList (List.replicate n z) := by
  intro i hi
  simp only [List.length_replicate] at hi
  have hl := R.len hz
  have hl' : zv.size = R.size := by simpa using hl
  have hle : (i + 1) * R.size ≤ m * R.size := Nat.mul_le_mul_right _ (by omega)
  rw [Nat.add_mul, Nat.one_mul] at hle
  rw [List.getElem_replicate]
  have : ((madeCells zv (m * R.size)).toList.drop (i * R.size)).take R.size = zv.toList := by
    apply List.ext_getElem
    · simp only [List.length_take, List.length_drop, Array.length_toList, size_madeCells]; omega
    · intro q h1 h2
      simp only [Array.length_toList] at h2
      simp only [List.getElem_take, List.getElem_drop, Array.getElem_toList]
      have hm : (madeCells zv (m * R.size))[i * R.size + q]'(by rw [size_madeCells]; omega) = zv[(i * R.size + q) % zv.size]! := by simp [madeCells]
      rw [hm]
      have hmod : (i * R.size + q) % zv.size = q := by
        rw [hl', Nat.add_comm, Nat.add_mul_mod_self_right]
        exact Nat.mod_eq_of_lt (by omega)
      rw [hmod, getElem!_pos zv q h2]
  rw [this]; exact hz
section
variable {X : Ctx} {Γ : Gam} {Ω : Omg} {α : Type} {R : RT α} {x y : Operand} {d j ty T E : Nat} {z : α} {pos : String} {af : Array Edge} {g : Option (Nat × Bool)}
theorem op_makeSlice {kl kc : IntKind} {n c : Int} (hx : Opd Γ x (D (RInt kl) n)) (hy : Opd Γ y (D (RInt kc) c)) (hu : X.P.underlying T = some (.slice E)) {inf : TypeInfo} (hinf : X.P.info? E = some inf) {zv : Value} (hzv : inf.zero = some zv) (hzo : ZeroOK X.P E R z)
    (hzs : (inf.size == R.size && zv.cells.size == R.size && Nat.blt 0 R.size && Nat.ble inf.bytes 8388608) = true) (hb : 0 ≤ n ∧ n ≤ c ∧ c ≤ 16777216) (hd : Nat.blt d X.n = true) (hj : Ω.lookup j = none) :
    ST X Γ Ω ⟨some d, .makeSlice T x y, ty, pos, af, g⟩ ((d, OS j) :: Γ) ((j, OwnSl R E (List.replicate n.toNat z)) :: Ω) := by
  rintro a w Q ⟨gs, own, hs⟩
  simp only [Bool.and_eq_true, beq_iff_eq, Nat.blt_eq, Nat.ble_eq] at hzs
  obtain ⟨⟨⟨hz1, hz2⟩, hz3⟩, hz4⟩ := hzs
  obtain ⟨h1, _⟩ := RInt.val_iff.1 (hx.get hs)
  obtain ⟨h2, _⟩ := RInt.val_iff.1 (hy.get hs)
  obtain ⟨hb1, hb2, hb3⟩ := hb
  have hbytes : (inf.bytes : Int) * c ≤ 281474976710656 := by
    have e1 : (c.toNat : Int) = c := Int.toNat_of_nonneg (by omega)
    have : inf.bytes * c.toNat ≤ 8388608 * 16777216 := Nat.mul_le_mul hz4 (by omega)
    have h3 : ((inf.bytes * c.toNat : Nat) : Int) ≤ 281474976710656 := by
      have : inf.bytes * c.toNat ≤ 140737488355328 := this
      omega
    rw [Int.natCast_mul, e1] at h3
    exact h3
  have hr := run_make (P := X.P) w T E inf zv hu hinf hzv kl kc n c hb1 hb2 hbytes (by omega)
  have hrun : (execOp a.eval ⟨some d, .makeSlice T x y, ty, pos, af, g⟩).run X.P w = .ok (.value (.slice (some ⟨w.heap.size, 0, none⟩) n.toNat c.toNat)) (w.alloc (.cells (madeCells zv.cells (c.toNat * inf.size)) E)) := by
    simp only [execOp, h1, h2]
    rw [run_value, hr]
  unfold Oper.wp
  rw [hrun, Oper.upon_value]
  have hfut : Fut (fun _ => False) w (w.alloc (.cells (madeCells zv.cells (c.toNat * inf.size)) E)) := fut_push w _
  have hlt : w.heap.size < (w.alloc (.cells (madeCells zv.cells (c.toNat * inf.size)) E)).heap.size := by
    show w.heap.size < (w.heap.push _).size
    rw [Array.size_push]; omega
  obtain ⟨zv', q1, q2⟩ := hzo.ex
  have ezv : zv' = zv := by
    rw [hinf] at q1
    simp only [Option.bind_some] at q1
    rw [hzv] at q1
    exact (Option.some.inj q1).symm
  subst ezv
  obtain ⟨gs', own', k1, k2, k3⟩ := hs.turn (j := j) (v' := .slice (some ⟨w.heap.size, 0, none⟩) n.toNat c.toNat) (e := OwnSl R E (List.replicate n.toNat z)) (w' := w.alloc (.cells (madeCells zv'.cells (c.toNat * inf.size)) E)) none hj (fun i h => nomatch h) (hfut.mono fun _ _ k => k.elim)
    (fun own' gs' p1 p2 p3 p4 => by
      have hnc : n.toNat ≤ c.toNat := by omega
      have hrow : RowC R (X.S own') (w.alloc (.cells (madeCells zv'.cells (c.toNat * inf.size)) E)) (madeCells zv'.cells (c.toNat * inf.size)).toList (List.replicate n.toNat z) := by
        rw [hz1]
        exact RowC.made (RT.val_cells (q2 _ _)) hnc
      have hle : n.toNat * R.size ≤ c.toNat * inf.size := by rw [hz1]; exact Nat.mul_le_mul_right _ hnc
      refine ⟨(madeCells zv'.cells (c.toNat * inf.size)).toList.take (n.toNat * R.size), ⟨?_, .inr ⟨w.heap.size, c.toNat, madeCells zv'.cells (c.toNat * inf.size), ?_, Nat.zero_le _, heap_alloc_new w _, ?_, ?_, ?_, ?_⟩⟩, ?_, ?_⟩
      · simp only [List.length_take, Array.length_toList, size_madeCells, List.length_replicate]; omega
      · simp
      · simpa using hnc
      · have : c.toNat ≤ 16777216 := by omega
        exact Nat.le_trans this (by decide)
      · rw [size_madeCells, hz1]
      · simp
      · exact own_new (w := w) (w' := w.alloc (.cells (madeCells zv'.cells (c.toNat * inf.size)) E)) p2 hlt rfl
      · exact hrow.mono (by simp only [List.length_replicate, List.take_take, Nat.min_self]))
  exact ⟨gs', own', k1.put (lt_of_blt hd) (Fut.refl _ _) k2⟩
/-! ### What is asked of an element's type -/
def slCheck (P : Program) (E n : Nat) : Bool :=
  match P.info? E with
  | some inf => match inf.zero with
    | some z => inf.size == n && z.cells.size == n && Nat.blt 0 n && Nat.ble inf.bytes 8388608
    | none => false
  | none => false
theorem slCheck_get {P : Program} {E n : Nat} (h : slCheck P E n = true) : ∃ inf z, P.info? E = some inf ∧ inf.zero = some z ∧ (inf.size == n && z.cells.size == n && Nat.blt 0 n && Nat.ble inf.bytes 8388608) = true := by
  unfold slCheck at h
  cases hi : P.info? E with
  | none => rw [hi] at h; cases h
  | some inf =>
    rw [hi] at h
    simp only at h
    cases hz : inf.zero with
    | none => rw [hz] at h; cases h
    | some z => rw [hz] at h; exact ⟨inf, z, rfl, hz, h⟩
variable {l m : List α} {i : Nat}
theorem qB (hx : Opd Γ x (OS i)) (hy : Opd Γ y (D (RSlice R) m)) (hu : X.P.underlying T = some (.slice E)) (hE : slCheck X.P E R.size = true) (hb : l.length + m.length ≤ 16777216) (hi : Ω.lookup i = some (OwnSl R E l) := by first | rfl | exact AOC.get rfl) (hd : Nat.blt d X.n = true := by rfl) (hj : Ω.lookup j = none := by first | rfl | exact AFC.get rfl) :
    ST X Γ Ω ⟨some d, .call ⟨.builtin .append, #[x, y], #[T, T]⟩, ty, pos, af, g⟩ ((d, OS j) :: Γ) ((j, OwnSl R E (l ++ m)) :: (i, OEnt.dead) :: Ω) := by
  obtain ⟨inf, zv, h1, h2, h3⟩ := slCheck_get hE
  exact op_append hx hi hy hu h1 h2 h3 hb hd hj
theorem vh {kl kc : IntKind} {n c : Int} (hx : Opd Γ x (D (RInt kl) n)) (hy : Opd Γ y (D (RInt kc) c)) (hu : X.P.underlying T = some (.slice E)) (hE : slCheck X.P E R.size = true) (hzo : ZeroOK X.P E R z) (hb : 0 ≤ n ∧ n ≤ c ∧ c ≤ 16777216) (hd : Nat.blt d X.n = true := by rfl) (hj : Ω.lookup j = none := by first | rfl | exact AFC.get rfl) :
    ST X Γ Ω ⟨some d, .makeSlice T x y, ty, pos, af, g⟩ ((d, OS j) :: Γ) ((j, OwnSl R E (List.replicate n.toNat z)) :: Ω) := by
  obtain ⟨inf, zv, h1, h2, h3⟩ := slCheck_get hE
  exact op_makeSlice hx hy hu h1 h2 hzo h3 hb hd hj
def hasZero (P : Program) (E : Nat) : Bool := ((P.info? E).bind (·.zero)).isSome
theorem hasZero_get {P : Program} {E : Nat} (h : hasZero P E = true) : ∃ zv, (P.info? E).bind (·.zero) = some zv := Option.isSome_iff_exists.1 h
theorem qC {n : Nat} {ps : List (Nat × Operand)} (hu : X.P.underlying T = some (.slice E)) (hE : TyOK X.P E R) (hz : hasZero X.P E = true) (hl : Lits Γ R 0 ps l) (hn : l.length = n := by rfl) (hb : Nat.ble (n * R.size) 16777216 = true := by decide) (hb2 : Nat.ble n 16777216 = true := by decide) (hd : Nat.blt d X.n = true := by rfl) :
    ST X Γ Ω ⟨some d, .buildSlice T n ps.toArray, ty, pos, af, g⟩ ((d, D (RSlice R) l) :: Γ) Ω := by
  obtain ⟨zv, h⟩ := hasZero_get hz
  exact op_buildSlice hu hE h hl hn hb hb2 hd
theorem qV {n : Nat} {ps : List (Nat × Operand)} (hu : X.P.underlying T = some (.slice E)) (hE : TyOK X.P E R) (hz : hasZero X.P E = true) (hl : Lits Γ R 0 ps l) (hn : l.length = n := by rfl) (hb : Nat.ble (n * R.size) 16777216 = true := by decide) (hb2 : Nat.ble n 16777216 = true := by decide) (hd : Nat.blt d X.n = true := by rfl) (hj : Ω.lookup j = none := by first | rfl | exact AFC.get rfl) :
    ST X Γ Ω ⟨some d, .buildSlice T n ps.toArray, ty, pos, af, g⟩ ((d, OS j) :: Γ) ((j, OwnSl R E l) :: Ω) := by
  obtain ⟨zv, h⟩ := hasZero_get hz
  exact op_buildSlice_own hu hE h hl hn hb hb2 hd hj
theorem Pass.newSl {i' : Nat} {σ : List (Nat × Nat)} {Ωi Ωo Ωn : Omg} (hi : Ω.lookup i = none) (h : Pass Ω σ Ωi Ωo Ωn) : Pass Ω ((i', i) :: σ) Ωi ((i', OwnSl R E l) :: Ωo) ((i, OwnSl R E l) :: Ωn) :=
  .new hi (fun _ _ _ _ _ _ h => h) h
theorem JE.convR {Γ' : Gam} {Ω' : Omg} {e : Exit} {Q : Exit → Act → World → Prop} (σ : List (Nat × Nat)) (hn1 : (σ.map Prod.fst).Nodup) (hn2 : (σ.map Prod.snd).Nodup) (hΓ : CVR σ Γ Γ') (hΩ : OVR σ Ω σ Ω') (h : JE X Γ' Ω' Q e) : JE X Γ Ω Q e :=
  fun a w hs => h a w (hs.convR σ hn1 hn2 hΓ hΩ)
/-- Slots that hold an object. -/
inductive AllOS (Γ : Gam) (i : Nat) : List Nat → Prop
  | nil : AllOS Γ i []
  | cons {t ts} : Γ.lookup t = some (OS i) → AllOS Γ i ts → AllOS Γ i (t :: ts)
theorem AllOS.get {i : Nat} : ∀ {ts : List Nat}, AllOS Γ i ts → ∀ t ∈ ts, Γ.lookup t = some (OS i)
  | _, .nil, _, h => nomatch h
  | _, .cons h t, q, hq => by
    rcases List.mem_cons.1 hq with rfl | k
    · exact h
    · exact t.get q k
theorem Sat.frz {a : Act} {w : World} (i : Nat) {ts : List Nat} (hi : Ω.lookup i = some (OwnSl R E l)) (ht : AllOS Γ i ts) (h : Sat X Γ Ω a w) : Sat X (ts.map (fun t => (t, D (RSlice R) l)) ++ Γ) ((i, OEnt.dead) :: Ω) a w := h.freeze hi ht.get
theorem Sat.frzH {β : Type} {a : Act} {w : World} (i j : Nat) {ts : List Nat} {Rs : RT β} {u : β} {φ : Value → Prop} {T0 o : Nat} {hs hs' : Holes} {set : β → List α → β} (hj : Ω.lookup j = some (OwnSl R E l)) (hi : Ω.lookup i = some (BoxH φ Rs T0 u hs)) (hij : Nat.beq i j = false) (ho : hs.lookup o = some (OS j)) (hf : FieldSet Rs o (RSlice R) set) (hh : (hs.filter fun p => p.1 != o) = hs') (ht : AllOS Γ j ts) (h : Sat X Γ Ω a w) :
    Sat X (ts.map (fun t => (t, D (RSlice R) l)) ++ Γ) ((i, BoxH φ Rs T0 (set u l) hs') :: (j, OEnt.dead) :: Ω) a w := h.freezeH hj hi hij ho hf hh ht.get
theorem Imp.frz (i : Nat) {ts : List Nat} (hi : Ω.lookup i = some (OwnSl R E l)) (ht : AllOS Γ i ts) : Imp X Γ Ω (ts.map (fun t => (t, D (RSlice R) l)) ++ Γ) ((i, OEnt.dead) :: Ω) := fun a w h => h.freeze hi ht.get
theorem Imp.frzH {β : Type} (i j : Nat) {ts : List Nat} {Rs : RT β} {u : β} {φ : Value → Prop} {T0 o : Nat} {hs hs' : Holes} {set : β → List α → β} (hj : Ω.lookup j = some (OwnSl R E l)) (hi : Ω.lookup i = some (BoxH φ Rs T0 u hs)) (hij : Nat.beq i j = false) (ho : hs.lookup o = some (OS j)) (hf : FieldSet Rs o (RSlice R) set) (hh : (hs.filter fun p => p.1 != o) = hs') (ht : AllOS Γ j ts) :
    Imp X Γ Ω (ts.map (fun t => (t, D (RSlice R) l)) ++ Γ) ((i, BoxH φ Rs T0 (set u l) hs') :: (j, OEnt.dead) :: Ω) := fun a w h => h.freezeH hj hi hij ho hf hh ht.get
theorem Imp.asBox {β : Type} (i : Nat) {Rs : RT β} {u : β} {φ : Value → Prop} {T0 : Nat} (hi : Ω.lookup i = some (BoxH φ Rs T0 u [])) : Imp X Γ Ω Γ ((i, BoxAt φ Rs T0 u) :: Ω) := fun a w h => h.asBox hi
theorem Imp.asHole {β : Type} (i : Nat) {Rs : RT β} {u : β} {φ : Value → Prop} {T0 : Nat} (hi : Ω.lookup i = some (BoxAt φ Rs T0 u)) : Imp X Γ Ω Γ ((i, BoxH φ Rs T0 u []) :: Ω) := fun a w h => h.asHole hi
theorem Imp.open {β : Type} (i j E : Nat) (Re : RT α) {Rs : RT β} {u : β} {φ : Value → Prop} {T0 o : Nat} {os : List Nat} {hs : Holes} (hi : Ω.lookup i = some (BoxH φ (RNilAt Rs (o :: os)) T0 u hs)) (hj : Ω.lookup j = none) (hij : Nat.beq i j = false) (ho : (hs.map Prod.fst).contains o = false) :
    Imp X Γ Ω Γ ((i, BoxH φ (RNilAt Rs os) T0 u ((o, OS j) :: hs)) :: (j, OwnSl Re E []) :: Ω) := fun a w h => h.open j E Re hi hj hij ho
theorem Imp.openEnd {β : Type} (i : Nat) {Rs : RT β} {u : β} {φ : Value → Prop} {T0 : Nat} {os : List Nat} {hs : Holes} (hi : Ω.lookup i = some (BoxH φ (RNilAt Rs os) T0 u hs)) : Imp X Γ Ω Γ ((i, BoxH φ Rs T0 u hs) :: Ω) := fun a w h => h.openEnd hi
/-- An array of operations, by its list. -/
inductive ArrIs : Array Oper → List Oper → Prop
  | lit {p : List Oper} : ArrIs (List.toArray p) p
  | app {a b : Array Oper} {p q : List Oper} : ArrIs a p → ArrIs b q → ArrIs (Array.append a b) (p ++ q)
theorem ArrIs.eq : ∀ {a : Array Oper} {p : List Oper}, ArrIs a p → a = p.toArray
  | _, _, .lit => rfl
  | _, _, .app h k => by rw [h.eq, k.eq]; simp
theorem JC.arr {arr : Array Oper} {l0 ops : List Oper} {id : Nat} {b : Bool} {Q : Exit → Act → World → Prop} (h : ArrIs arr l0) (hl : l0 = ops) (k : JC X Γ Ω (.region id ops.toArray b) Q) : JC X Γ Ω (.region id arr b) Q := by
  rw [h.eq, hl]; exact k
/-! ### Bytes as a text -/
def bytesS (l : List Int) : Str := l.map fun n => UInt8.ofNat n.toNat
theorem va {l : List Int} {T1 T2 : Nat} (hx : Opd Γ x (D (RSlice (RInt .u8)) l)) (hu : X.P.underlying T1 = some (.slice E)) (hE : X.P.underlying E = some (.int .u8)) (hs : X.P.underlying T2 = some .string) (hd : Nat.blt d X.n = true := by rfl) :
    ST X Γ Ω ⟨some d, .convert T1 T2 x, ty, pos, af, g⟩ ((d, D RStr (bytesS l)) :: Γ) Ω :=
  ST.val0 rfl hd fun a w gs own hs0 => by
    obtain ⟨ao, n, c, h1, h2, h3, h4, h5⟩ := RSlice.val_iff.1 (hx.get hs0)
    have hr : (convert T1 T2 (.slice ao n c)).run X.P w = .ok (.string (strOfNums l)) w := by
      cases ao with
      | none =>
        rcases h5 with rfl | ⟨b, off, e, _⟩
        · simp only [List.length_nil] at h2
          subst h2
          rw [run_convert_bytes_nil w T1 E hu hE 0 c T2 hs]; rfl
        · cases e
      | some ad =>
        rcases h5 with rfl | ⟨b, off, e, h6, h7⟩
        · simp only [List.length_nil] at h2
          subst h2
          have hl : (loadCells ad 0).run X.P w = .ok (([] : List Int).map (Value.int .u8)).toArray w := rfl
          rw [run_convert_bytes_string w T1 T2 E _ 0 c hu hE hs, run_bytesToString w _ 0 c [] hl]; rfl
        · cases e
          refine run_convert_bytes_arg w T1 E hu hE b off n c l h2 (fun i hi => ?_) T2 hs
          obtain ⟨ecs, k1, k2⟩ := h7 i (by omega)
          have k3 : ecs = [.int .u8 l[i]] := k1.1
          subst k3
          have := k2 0 (by simp)
          simp only [RInt, Nat.mul_one, Nat.add_zero, List.getElem_cons_zero] at this
          rw [this]
          simp [List.getD, List.getElem?_eq_getElem (show i < l.length by omega)]
    refine ⟨.string (strOfNums l), ?_, RStr.val_iff.2 ⟨rfl, ?_⟩⟩
    · simp only [execOp, h1]
      rw [run_value, hr]
    · simp only [bytesS, List.length_map]; omega
end
end Go.Trw
