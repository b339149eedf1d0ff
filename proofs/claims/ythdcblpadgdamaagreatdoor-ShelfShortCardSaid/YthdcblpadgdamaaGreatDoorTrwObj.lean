/- Own work: arrays; a text gone over rune by rune; maps. -/
import Derived.Test.YthdcblpadgdamaaGreatDoorTrwPred
import Derived.Laws.RangeString
set_option linter.all false
namespace Go.Trw
open Go
/-! ### 1. Objects that are no rows of cells -/
theorem run_setObj {P : Program} {w : World} {r : Nat} {o o' : Obj} (h : w.heap[r]? = some o') (hc : (match o' with | .cells .. => False | _ => True)) : (setObj r o).run P w = .ok () { w with heap := w.heap.setIfInBounds r o } := by
  unfold setObj
  simp only [Sem.run, h]
  cases o' <;> first | exact hc.elim | rfl
theorem run_getObj {P : Program} {w : World} {r : Nat} {o : Obj} (h : w.heap[r]? = some o) (hc : (match o with | .cells .. => False | _ => True)) : (getObj r).run P w = .ok o w := by
  unfold getObj
  simp only [Sem.run, h]
  cases o <;> first | exact hc.elim | rfl
theorem fut_setObj {w : World} {r : Nat} {o : Obj} : Fut (fun x => x = r) w { w with heap := w.heap.setIfInBounds r o } :=
  ⟨rfl, rfl, rfl, by simp, fun b hb hn => by
    have : ¬ r = b := fun e => hn e.symm
    simp [Array.getElem?_setIfInBounds, this]⟩
theorem set_get {w : World} {r : Nat} {o o' : Obj} (h : w.heap[r]? = some o') : (w.heap.setIfInBounds r o)[r]? = some o := by
  have : r < w.heap.size := by
    rcases Nat.lt_or_ge r w.heap.size with k | k
    · exact k
    · rw [Array.getElem?_eq_none k] at h; cases h
  simp [Array.getElem?_setIfInBounds, this]
/-! ### 2. A text, rune by rune -/
def runeOf (s : Str) (p : Nat) : Int := ((Utf8.decode ⟨s.toArray⟩ p).1 : Int)
def runeW (s : Str) (p : Nat) : Nat := (Utf8.decode ⟨s.toArray⟩ p).2
/-- How far a text was gone over. -/
def IterS (s : Str) (p : Nat) : OEnt where
  holds _ v B S w := ∃ b, v = .pointer (some ⟨b, 0, none⟩) ∧ B b ∧ w.heap[b]? = some (.stringIter ⟨s.toArray⟩ p)
  stable := fun _ ⟨b, h1, h2, h3⟩ hb _ => ⟨b, h1, h2, (hb b h2).trans h3⟩
/-- What the next step of it tells. -/
def NX (s : Str) (p : Nat) : Ent := ⟨fun _ _ _ v => v = if p < s.length then .tuple #[.bool true, .int .i64 p, .int .i32 (runeOf s p)] else .tuple #[.bool false], fun _ _ h => h⟩
theorem Keeps.nx {ks : List Nat} {s : Str} {p : Nat} : Keeps ks (NX s p) := fun _ _ _ _ h => h
theorem Ren.nx {σ : List (Nat × Nat)} {s : Str} {p : Nat} : Ren σ (NX s p) (NX s p) := fun _ _ _ _ h => h
theorem KeepsO.it {ks : List Nat} {s : Str} {p : Nat} : KeepsO ks (IterS s p) := fun _ _ _ _ _ h => h
theorem RenO.it {σ : List (Nat × Nat)} {s : Str} {p : Nat} : RenO σ (IterS s p) (IterS s p) := fun _ _ _ _ _ h => h
section
variable {X : Ctx} {Γ : Gam} {Ω : Omg} {α β : Type} {R : RT α} {Rf : RT β} {x y z : Operand} {d i j ty T E o : Nat} {pos : String} {af : Array Edge} {g : Option (Nat × Bool)}
theorem vM {s : Str} (hx : Opd Γ x (D RStr s)) (hu : X.P.underlying T = some .string) (hd : Nat.blt d X.n = true := by rfl) (hj : Ω.lookup j = none := by first | rfl | exact AFC.get rfl) :
    ST X Γ Ω ⟨some d, .range T x, ty, pos, af, g⟩ ((d, BP j 0) :: Γ) ((j, IterS s 0) :: Ω) := by
  rintro a w Q ⟨gs, own, hs⟩
  obtain ⟨h1, _⟩ := RStr.val_iff.1 (hx.get hs)
  have hrun : (execOp a.eval ⟨some d, .range T x, ty, pos, af, g⟩).run X.P w = .ok (.value (.pointer (some ⟨w.heap.size, 0, none⟩))) { w with heap := w.heap.push (.stringIter ⟨s.toArray⟩ 0) } := by
    simp only [execOp, h1]
    rw [run_value, run_range_string w T _ hu]; rfl
  unfold Oper.wp
  rw [hrun, Oper.upon_value]
  obtain ⟨gs', own', hs', hg, _⟩ := hs.new (i := j) (v := .pointer (some ⟨w.heap.size, 0, none⟩)) (e := IterS s 0) (w' := { w with heap := w.heap.push (.stringIter ⟨s.toArray⟩ 0) }) hj (fut_push _ _) (by simp)
    (fun own' _ h1 h2 h3 _ => ⟨w.heap.size, rfl, h1, by simp⟩)
  exact ⟨gs', own', hs'.put (lt_of_blt hd) (Fut.refl _ _) ⟨w.heap.size, hg, rfl⟩⟩
theorem vL {s : Str} {p : Nat} (hx : Opd Γ x (BP i 0)) (hi : Ω.lookup i = some (IterS s p) := by first | rfl | exact AOC.get rfl) (hd : Nat.blt d X.n = true := by rfl) :
    ST X Γ Ω ⟨some d, .next x true, ty, pos, af, g⟩ ((d, NX s p) :: Γ) ((i, IterS s (if p < s.length then p + runeW s p else p)) :: Ω) := by
  rintro a w Q ⟨gs, own, hs⟩
  obtain ⟨b, h1, h2⟩ := hx.sat hs
  obtain ⟨v, hv, b', e1, e2, e3⟩ := hs.obj i _ hi
  rw [h1] at hv
  simp only [Option.some.injEq] at hv
  subst hv
  simp only [Value.pointer.injEq, Option.some.injEq, Addr.mk.injEq] at e1
  obtain ⟨rfl, _⟩ := e1
  by_cases hp : p < s.length
  · have hp' : p < (ByteArray.mk s.toArray).size := hp
    have hrun : (execOp a.eval ⟨some d, .next x true, ty, pos, af, g⟩).run X.P w = .ok (.value (.tuple #[.bool true, .int .i64 p, .int .i32 (runeOf s p)])) { w with heap := w.heap.setIfInBounds b (.stringIter ⟨s.toArray⟩ (p + runeW s p)) } := by
      simp only [execOp, h2]
      rw [run_value]
      have : (Instr.next (.pointer (some ⟨b, 0, none⟩)) true ty).run X.P w = .ok (.tuple #[.bool true, .int .i64 p, .int .i32 (runeOf s p)]) { w with heap := w.heap.setIfInBounds b (.stringIter ⟨s.toArray⟩ (p + runeW s p)) } := by
        unfold Instr.next
        simp only [run_bind, run_getObj e3 trivial, hp', if_true]
        simp only [run_bind, run_setObj e3 trivial, run_pure, goInt]
        rfl
      rw [this]
    unfold Oper.wp
    rw [hrun, Oper.upon_value]
    rw [if_pos hp]
    have hO : (IterS s (p + runeW s p)).holds gs (.pointer (some ⟨b, 0, none⟩)) (fun b => own b = some i) (X.S own) { w with heap := w.heap.setIfInBounds b (.stringIter ⟨s.toArray⟩ (p + runeW s p)) } := ⟨b, rfl, e2, set_get e3⟩
    refine ⟨gs, own, SatD.put (hs.update h1 (by rw [hi]; simp) (fut_setObj.mono fun x _ hx => by subst hx; exact e2) hO) (lt_of_blt hd) (Fut.refl _ _) ?_⟩
    show _ = ite _ _ _
    rw [if_pos hp]
  · have hp' : ¬ p < (ByteArray.mk s.toArray).size := hp
    have hrun : (execOp a.eval ⟨some d, .next x true, ty, pos, af, g⟩).run X.P w = .ok (.value (.tuple #[.bool false])) w := by
      simp only [execOp, h2]
      rw [run_value]
      have : (Instr.next (.pointer (some ⟨b, 0, none⟩)) true ty).run X.P w = .ok (.tuple #[.bool false]) w := by
        unfold Instr.next
        simp only [run_bind, run_getObj e3 trivial, hp', if_false, run_pure]
      rw [this]
    unfold Oper.wp
    rw [hrun, Oper.upon_value]
    rw [if_neg hp]
    have hO : (IterS s p).holds gs (.pointer (some ⟨b, 0, none⟩)) (fun b => own b = some i) (X.S own) w := ⟨b, rfl, e2, e3⟩
    refine ⟨gs, own, SatD.put (hs.update h1 (by rw [hi]; simp) (Fut.refl _ _) hO) (lt_of_blt hd) (Fut.refl _ _) ?_⟩
    show _ = ite _ _ _
    rw [if_neg hp]
theorem vD {s : Str} {p : Nat} (hx : Opd Γ x (NX s p)) (hd : Nat.blt d X.n = true := by rfl) :
    ST X Γ Ω ⟨some d, .extract x 0, ty, pos, af, g⟩ ((d, D RBool (decide (p < s.length))) :: Γ) Ω :=
  ST.val0 rfl hd fun a w gs own hs => by
    have h1 := hx.sat hs
    refine ⟨.bool (decide (p < s.length)), ?_, ro_bool⟩
    simp only [execOp]
    rw [run_value, show a.eval x = _ from h1]
    by_cases hp : p < s.length
    · rw [if_pos hp]; simp [Instr.extract, hp, run_pure]
    · rw [if_neg hp]; simp [Instr.extract, hp, run_pure]
theorem vE {s : Str} {p : Nat} (hx : Opd Γ x (NX s p)) (hp : decide (p < s.length) = true) (hr : inK .i32 (runeOf s p)) (hd : Nat.blt d X.n = true := by rfl) :
    ST X Γ Ω ⟨some d, .extract x 2, ty, pos, af, g⟩ ((d, D (RInt .i32) (runeOf s p)) :: Γ) Ω :=
  ST.val0 rfl hd fun a w gs own hs => by
    have h1 := hx.sat hs
    have hp' : p < s.length := of_decide_eq_true hp
    refine ⟨.int .i32 (runeOf s p), ?_, RInt.val_iff.2 ⟨rfl, hr⟩⟩
    simp only [execOp]
    rw [run_value, show a.eval x = _ from h1, if_pos hp']
    simp [Instr.extract, run_pure]
/-! ### 3. Arrays -/
def RArr (n : Nat) (R : RT α) : RT (List α) where
  agg := true
  size := n * R.size
  rep S w cs l := l.length = n ∧ cs.length = n * R.size ∧ RowC R S w cs l
  len := fun h => h.2.1
  flat := fun h => RowC.flat (by rw [h.1]; exact h.2.1) h.2.2
  one := fun h => nomatch h
  stable := fun h hl => ⟨h.1, h.2.1, h.2.2.later hl⟩
theorem RArr.fieldOf [Inhabited α] {n : Nat} {k : Int} (hk : 0 ≤ k ∧ k < (n : Int)) : FieldOf (RArr n R) (k.toNat * R.size) R (fun l => nth l k) :=
  ⟨fun {S w cs l} h => by
    have hlt : k.toNat < l.length := by rw [h.1]; omega
    have := h.2.2 k.toNat hlt
    have hn : nth l k = l[k.toNat] := by simp [nth, hlt]
    rw [hn]; exact this, by
    have : (k.toNat + 1) * R.size ≤ n * R.size := Nat.mul_le_mul_right _ (by omega)
    rw [Nat.add_mul, Nat.one_mul] at this
    exact this⟩
theorem RArr.fieldSet {n : Nat} {k : Int} (hk : 0 ≤ k ∧ k < (n : Int)) : FieldSet (RArr n R) (k.toNat * R.size) R (fun l x => l.set k.toNat x) := by
  have hle0 : (k.toNat + 1) * R.size ≤ n * R.size := Nat.mul_le_mul_right _ (by omega)
  rw [Nat.add_mul, Nat.one_mul] at hle0
  refine ⟨fun {S w cs l fs x} h hx => ?_, hle0⟩
  obtain ⟨h1, h2, h3⟩ := h
  have hl := R.len hx
  have hlt : k.toNat < l.length := by rw [h1]; omega
  refine ⟨by rw [List.length_set]; exact h1, by rw [splice_length (by rw [hl, h2]; exact hle0)]; exact h2, fun j hj => ?_⟩
  have hjl : j < l.length := by simpa using hj
  have hle4 : (j + 1) * R.size ≤ n * R.size := Nat.mul_le_mul_right _ (by omega)
  rw [Nat.add_mul, Nat.one_mul] at hle4
  by_cases hjn : j = k.toNat
  · subst hjn
    rw [List.getElem_set_self]
    have : ((splice cs (k.toNat * R.size) fs).drop (k.toNat * R.size)).take R.size = fs := by
      apply List.ext_getElem
      · simp only [List.length_take, List.length_drop, splice_length (show k.toNat * R.size + fs.length ≤ cs.length by rw [hl, h2]; exact hle0), hl]; omega
      · intro q h1 h2
        simp only [splice, List.getElem_append, List.getElem_take, List.getElem_drop, List.length_append, List.length_take]
        repeat' split
        all_goals (try omega)
        all_goals (congr 1; omega)
    rw [this]; exact hx
  · rw [List.getElem_set_ne (fun e => hjn e.symm)]
    have hcase : j * R.size + R.size ≤ k.toNat * R.size ∨ k.toNat * R.size + R.size ≤ j * R.size := by
      rcases Nat.lt_or_gt_of_ne hjn with h | h
      · left
        have := Nat.mul_le_mul_right R.size (show j + 1 ≤ k.toNat from h)
        rw [Nat.add_mul, Nat.one_mul] at this; exact this
      · right
        have := Nat.mul_le_mul_right R.size (show k.toNat + 1 ≤ j from h)
        rw [Nat.add_mul, Nat.one_mul] at this; exact this
    have : ((splice cs (k.toNat * R.size) fs).drop (j * R.size)).take R.size = (cs.drop (j * R.size)).take R.size := by
      apply List.ext_getElem
      · simp only [List.length_take, List.length_drop, splice_length (show k.toNat * R.size + fs.length ≤ cs.length by rw [hl, h2]; exact hle0)]
      · intro q h1 h2
        simp only [List.length_take, List.length_drop] at h1 h2
        simp only [splice, List.getElem_append, List.getElem_take, List.getElem_drop, List.length_append, List.length_take]
        repeat' split
        all_goals (try omega)
        all_goals (congr 1 <;> omega)
    rw [this]; exact h3 j hjl
theorem RowC.rep {S : Nat → Prop} {w : World} {cs : List Value} {z : α} (h : R.rep S w cs z) : ∀ n : Nat, RowC R S w (List.replicate n cs).flatten (List.replicate n z) := by
  intro n
  have hl := R.len h
  induction n with
  | zero => intro i hi; simp at hi
  | succ n ih =>
    have h0 : RowC R S w cs [z] := by
      intro j hj
      simp at hj; subst hj
      show R.rep S w ((cs.drop (0 * R.size)).take R.size) z
      rw [Nat.zero_mul, List.drop_zero, List.take_of_length_le (by omega)]; exact h
    have := RowC.append (c3 := []) (l := [z]) (by simp [hl]) (c2 := (List.replicate n cs).flatten) (m := List.replicate n z) (by simp [hl, List.length_flatten, Nat.mul_comm]) h0 ih
    rw [List.append_nil] at this
    simpa [List.replicate_succ] using this
theorem ZR.arr {cs : List Value} {z : α} {n : Nat} (h : ZR R cs z) : ZR (RArr n R) (List.replicate n cs).flatten (List.replicate n z) := fun S w =>
  ⟨by simp, by have := R.len (h S w); simp [List.length_flatten, this], RowC.rep (h S w) n⟩
theorem vb {k : IntKind} {n : Int} {N o2 : Nat} (hx : Opd Γ x (BP i o)) (hy : Opd Γ y (D (RInt k) n)) (hu : X.P.underlying T = some (.array N E)) (hE : TyOK X.P E R) (hb : 0 ≤ n ∧ n < (N : Int)) (hd : Nat.blt d X.n = true := by rfl) (ho : o + n.toNat * R.size = o2 := by rfl) :
    ST X Γ Ω ⟨some d, .indexAddr T x y, ty, pos, af, g⟩ ((d, BP i o2) :: Γ) Ω :=
  ST.val0 rfl hd fun a w gs own hs => by
    subst ho
    obtain ⟨b, h1, h2⟩ := hx.sat hs
    obtain ⟨h3, _⟩ := RInt.val_iff.1 (hy.get hs)
    refine ⟨.pointer (some ⟨b, o + n.toNat * R.size, none⟩), ?_, ⟨b, h1, rfl⟩⟩
    simp only [execOp, h2, h3]
    rw [run_value]
    simp only [Instr.indexAt, asIntOf, run_bind, run_underlying hu, pure, Sem.run, Instr.sureAddr]
    rw [if_pos hb]
    simp only [run_bind, hE.run_size, Sem.run, addr_add]
theorem vq [Inhabited α] {k : IntKind} {n : Int} {N : Nat} {l : List α} (hx : Opd Γ x (D (RArr N R) l)) (hy : Opd Γ y (D (RInt k) n)) (hu : X.P.underlying T = some (.array N E)) (hE : TyOK X.P E R) (hb : 0 ≤ n ∧ n < (N : Int)) (hd : Nat.blt d X.n = true := by rfl) :
    ST X Γ Ω ⟨some d, .index T x y, ty, pos, af, g⟩ ((d, D R (nth l n)) :: Γ) Ω :=
  ST.val0 rfl hd fun a w gs own hs => by
    obtain ⟨cs, h1, h2⟩ := (hx.get hs).1 rfl
    obtain ⟨h3, _⟩ := RInt.val_iff.1 (hy.get hs)
    have hr := (RArr.fieldOf (R := R) hb).get h2
    refine ⟨_, ?_, RT.val_of hr⟩
    simp only [execOp, h1, h3]
    rw [run_value]
    simp only [Instr.index, asIntOf, run_bind, run_underlying hu, pure, Sem.run]
    rw [if_pos hb]
    simp only [run_bind, hE.run_size]
    rw [run_part hE hr]
theorem vo {N : Nat} {ps : List (Nat × Operand)} {l : List α} {z : List α} (hu : X.P.underlying T = some (.array N E)) (hE : TyOK X.P E R) (hz : ZeroOK X.P T (RArr N R) z) (hl : Lits Γ R 0 ps l) (hn : l.length = N := by rfl) (hd : Nat.blt d X.n = true := by rfl) :
    ST X Γ Ω ⟨some d, .build T ps.toArray, ty, pos, af, g⟩ ((d, D (RArr N R) l) :: Γ) Ω :=
  ST.val0 rfl hd fun a w gs own hs => by
    subst hn
    obtain ⟨zv, h1, h2⟩ := hz.ex
    have hzr := RT.val_cells (h2 (X.S own) w)
    have hsz : zv.cells.size = l.length * R.size := by simpa using hzr.2.1
    obtain ⟨mc, m1, m2, m3, m4⟩ := hl.run hs.ent (cells := zv.cells) (by rw [Nat.zero_add, hsz]; exact Nat.le_refl _)
    have hspl : splice zv.cells.toList (0 * R.size) mc = mc := by simp [splice, m1, hsz]
    rw [hspl] at m4
    refine ⟨.agg mc.toArray, ?_, ⟨fun _ => ⟨_, rfl, rfl, by simpa using m1, by simpa using m2⟩, fun k => nomatch k⟩⟩
    have e : (Instr.build T (ps.toArray.map fun p => (p.1, a.eval p.2))).run X.P w = .ok (.agg mc.toArray) w := by
      unfold Instr.build
      rw [run_bind, run_zeroValue h1]
      simp only []
      rw [run_bind, run_underlying hu]
      simp only []
      rw [run_bind, hE.run_size]
      have : (ps.toArray.map fun p => (p.1, a.eval p.2)).toList = ps.map fun p => (p.1, a.eval p.2) := by simp
      simp only [this, m4, run_pure]
    simp only [execOp]
    rw [run_value, e]
theorem qn {u : α} (hx : Opd Γ x (BP i 0)) {φ : Value → Prop} {T0 : Nat} (hT : TyOK X.P T R) (hd : Nat.blt d X.n = true := by rfl) (hi : Ω.lookup i = some (BoxAt φ R T0 u) := by first | rfl | exact AOC.get rfl) :
    ST X Γ Ω ⟨some d, .load T x, ty, pos, af, g⟩ ((d, D R u) :: Γ) Ω := qd (hx := hx) (hd := hd) (hi := hi) (hf := FieldOf.self) (hT := hT)
theorem qo {u z0 : α} (hx : Opd Γ x (BP i 0)) (hy : Opd Γ y (D R z0)) {φ : Value → Prop} {T0 : Nat} (hT : TyOK X.P T R) (hi : Ω.lookup i = some (BoxAt φ R T0 u) := by first | rfl | exact AOC.get rfl) :
    ST X Γ Ω ⟨none, .store T x y, ty, pos, af, g⟩ Γ ((i, BoxAt φ R T0 z0) :: Ω) := qv (hx := hx) (hy := hy) (hi := hi) (hf := FieldSet.self) (hT := hT)
/-! ### 4. Maps -/
/-- A kind of keys. -/
structure KeyOK (P : Program) (T : Nat) {κ : Type} [DecidableEq κ] (RK : RT κ) (kv : κ → Value) : Prop where
  ex : ∃ kd, P.underlying T = some kd ∧ ∀ a b : κ, Instr.sameNow kd (kv a) (kv b) = some (decide (a = b))
  rep : ∀ S w v k, RK.val S w v k → v = kv k
  bits : ∀ a n, Instr.sameBits n (kv a) (kv a) = true
  chk : ∀ e a w, (Instr.checkKey e 10000 T (kv a)).run P w = .ok () w
def strV (s : Str) : Value := .string ⟨s.toArray⟩
theorem ba_beq (a b : Str) : ((⟨a.toArray⟩ : ByteArray) == ⟨b.toArray⟩) = decide (a = b) := by
  rw [beq_toListBytes, ba_toList, ba_toList]
  show (a == b) = _
  by_cases h : a = b
  · subst h; simp
  · simp [h]
theorem KeyOK.str {P : Program} {T : Nat} (hu : P.underlying T = some .string) : KeyOK P T RStr strV where
  ex := ⟨_, hu, fun a b => by
    show some ((⟨a.toArray⟩ : ByteArray) == ⟨b.toArray⟩) = _
    congr 1
    exact ba_beq a b⟩
  rep := fun S w v k h => (RStr.val_iff.1 h).1
  bits := fun a n => by cases n <;> (simp only [strV, Instr.sameBits, ba_beq]; simp)
  chk := fun e a w => by
    rw [show (10000 : Nat) = 9999 + 1 from rfl]
    unfold Instr.checkKey
    rw [run_bind, run_underlying hu]
    rfl
def intV (k : IntKind) (n : Int) : Value := .int k n
theorem KeyOK.int {P : Program} {T : Nat} {K : IntKind} (hu : P.underlying T = some (.int K)) : KeyOK P T (RInt K) (intV K) where
  ex := ⟨_, hu, fun a b => by
    show (if K = K then some (a == b) else none) = _
    rw [if_pos rfl]
    congr 1⟩
  rep := fun S w v k h => (RInt.val_iff.1 h).1
  bits := fun a n => by cases n <;> simp [intV, Instr.sameBits]
  chk := fun e a w => by
    rw [show (10000 : Nat) = 9999 + 1 from rfl]
    unfold Instr.checkKey
    rw [run_bind, run_underlying hu]
    rfl
inductive MEnts {κ : Type} (kv : κ → Value) (gs : Nat → Option Value) (S : Nat → Prop) (w : World) : List (κ × Ent) → List MapEntry → Prop
  | nil : MEnts kv gs S w [] []
  | cons {k e m l ms} : m.key = kv k → e.sem gs S w m.val → MEnts kv gs S w l ms → MEnts kv gs S w ((k, e) :: l) (m :: ms)
theorem MEnts.mono {κ : Type} {kv : κ → Value} {gs gs' : Nat → Option Value} {S S' : Nat → Prop} {w w' : World} (hg : ∀ i x, gs i = some x → gs' i = some x) (hl : Later S w S' w') : ∀ {l ms}, MEnts kv gs S w l ms → MEnts kv gs' S' w' l ms
  | _, _, .nil => .nil
  | _, _, .cons h1 h2 t => .cons h1 (Ent.mono _ hg hl h2) (t.mono hg hl)
theorem MEnts.append {κ : Type} {kv : κ → Value} {gs : Nat → Option Value} {S : Nat → Prop} {w : World} {l2 : List (κ × Ent)} {m2 : List MapEntry} (k : MEnts kv gs S w l2 m2) : ∀ {l ms}, MEnts kv gs S w l ms → MEnts kv gs S w (l ++ l2) (ms ++ m2)
  | _, _, .nil => k
  | _, _, .cons h1 h2 t => .cons h1 h2 (MEnts.append k t)
/-- A map of the call's own. -/
def MapE {κ : Type} (kv : κ → Value) (l : List (κ × Ent)) : OEnt where
  holds gs v B S w := ∃ r es c, v = .map (some r) ∧ B r ∧ w.heap[r]? = some (.map es c) ∧ MEnts kv gs S w l es.toList
  stable := fun hg ⟨r, es, c, h1, h2, h3, h4⟩ hb hl => ⟨r, es, c, h1, h2, (hb r h2).trans h3, h4.mono hg hl⟩
def mfind {κ : Type} [DecidableEq κ] (l : List (κ × Ent)) (k : κ) : Option Ent := match l with
  | [] => none
  | (k', e) :: t => if k' = k then some e else mfind t k
/-- What is found at a key. -/
def CaseE {κ : Type} [DecidableEq κ] (l : List (κ × Ent)) (k : κ) (ez : Ent) : Ent := ⟨fun gs S w v => match mfind l k with | some e => e.sem gs S w v | none => ez.sem gs S w v, fun hg hl h => by
  cases hm : mfind l k with
  | some e => rw [hm] at h; exact e.mono hg hl h
  | none => rw [hm] at h; exact ez.mono hg hl h⟩
theorem find_now {P : Program} {T : Nat} {κ : Type} [DecidableEq κ] {RK : RT κ} {kv : κ → Value} {kd : TypeDesc} (hs : ∀ a b : κ, Instr.sameNow kd (kv a) (kv b) = some (decide (a = b))) {gs : Nat → Option Value} {S : Nat → Prop} {w : World} (k : κ) :
    ∀ {l : List (κ × Ent)} {ms : List MapEntry} (n : Nat), MEnts kv gs S w l ms →
      (mfind l k = none ∧ Instr.findNow kd (kv k) ms n = some none) ∨ ∃ e v q, mfind l k = some e ∧ Instr.findNow kd (kv k) ms n = some (some (n + q, v)) ∧ e.sem gs S w v ∧ ∃ m, ms[q]? = some m ∧ m.val = v ∧ m.key = kv k
  | _, _, n, .nil => .inl ⟨rfl, rfl⟩
  | _, _, n, .cons (k := k') (e := e) (m := m) (l := l) (ms := ms) h1 h2 t => by
    simp only [mfind, Instr.findNow, h1, hs]
    by_cases hk : k = k'
    · subst hk
      right
      exact ⟨e, m.val, 0, by simp, by simp, h2, m, by simp, rfl, h1⟩
    · have hk' : ¬ k' = k := fun e => hk e.symm
      simp only [hk, hk', decide_false, if_false]
      rcases find_now (P := P) (T := T) (RK := RK) hs k (n + 1) t with ⟨q1, q2⟩ | ⟨e', v, q, q1, q2, q3, m', q4, q5⟩
      · exact .inl ⟨q1, q2⟩
      · exact .inr ⟨e', v, q + 1, q1, by rw [q2]; congr 3; omega, q3, m', by simpa using q4, q5⟩
variable {κ : Type} [DecidableEq κ] {RK : RT κ} {kv : κ → Value} {ml : List (κ × Ent)} {k : κ} {e : Ent}
theorem vu {rs : Option Operand} (hrs : rs = none := by rfl) (hd : Nat.blt d X.n = true := by rfl) (hj : Ω.lookup j = none := by first | rfl | exact AFC.get rfl) :
    ST X Γ Ω ⟨some d, .makeMap T rs, ty, pos, af, g⟩ ((d, OS j) :: Γ) ((j, MapE kv ([] : List (κ × Ent))) :: Ω) := by
  subst hrs
  rintro a w Q ⟨gs, own, hs⟩
  have hrun : (execOp a.eval ⟨some d, .makeMap T none, ty, pos, af, g⟩).run X.P w = .ok (.value (.map (some w.heap.size))) { w with heap := w.heap.push (.map #[] 0) } := by
    simp only [execOp, Option.map_none]
    rw [run_value]
    simp only [Instr.makeMap, run_bind, run_newObj, run_pure]
  unfold Oper.wp
  rw [hrun, Oper.upon_value]
  obtain ⟨gs', own', hs', hg, _⟩ := hs.new (i := j) (v := .map (some w.heap.size)) (e := MapE kv []) (w' := { w with heap := w.heap.push (.map #[] 0) }) hj (fut_push _ _) (by simp)
    (fun own' _ h1 h2 h3 _ => ⟨w.heap.size, #[], 0, rfl, h1, by simp, .nil⟩)
  exact ⟨gs', own', hs'.put (lt_of_blt hd) (Fut.refl _ _) hg⟩
theorem run_insert_new {P : Program} {TM TK TV : Nat} (hu : P.underlying TM = some (.map TK TV)) (hK : KeyOK P TK RK kv) {w : World} {r : Nat} {es : Array MapEntry} {c : Nat} (hr : w.heap[r]? = some (.map es c)) {gs : Nat → Option Value} {S : Nat → Prop} (hm : MEnts kv gs S w ml es.toList) (hk : mfind ml k = none) (v : Value) :
    (Instr.mapUpdate TM (.map (some r)) (kv k) v).run P w = .ok () { w with heap := w.heap.setIfInBounds r (.map (es.push ⟨kv k, v, c⟩) (c + 1)) } := by
  obtain ⟨kd, k1, k2⟩ := hK.ex
  have hf : Instr.findNow kd (kv k) es.toList 0 = some none := by
    rcases find_now (P := P) (T := TK) (RK := RK) k2 k 0 hm with ⟨_, h⟩ | ⟨e, _, _, h, _⟩
    · exact h
    · rw [hk] at h; cases h
  unfold Instr.mapUpdate
  simp only [run_bind, run_underlying hu, run_getObj hr trivial, hK.chk, Instr.findKey, run_underlying k1, hf, run_pure, run_setObj hr trivial]
/-- A key that is not there yet. -/
theorem vg {o2 : Op} {TK TV : Nat} (ho : o2 = .insert T x y z ∨ o2 = .mapUpdate T x y z) (hx : Opd Γ x (OS i)) (hy : Opd Γ y (D RK k)) (hz : Opd Γ z e) (hu : X.P.underlying T = some (.map TK TV)) (hK : KeyOK X.P TK RK kv) (hi : Ω.lookup i = some (MapE kv ml) := by first | rfl | exact AOC.get rfl) (hk : mfind ml k = none := by decide) :
    ST X Γ Ω ⟨none, o2, ty, pos, af, g⟩ Γ ((i, MapE kv (ml ++ [(k, e)])) :: Ω) := by
  rintro a w Q ⟨gs, own, hs⟩
  have hv : gs i = some (a.eval x) := hx.sat hs
  obtain ⟨v, hv', r, es, c, e1, e2, e3, e4⟩ := hs.obj i _ hi
  rw [hv] at hv'
  simp only [Option.some.injEq] at hv'
  have hkv := hK.rep _ _ _ _ (hy.get hs)
  have hze := hz.sat hs
  have hup := run_insert_new hu hK e3 e4 hk (a.eval z)
  have hrun : (execOp a.eval ⟨none, o2, ty, pos, af, g⟩).run X.P w = .ok .skip { w with heap := w.heap.setIfInBounds r (.map (es.push ⟨kv k, a.eval z, c⟩) (c + 1)) } := by
    rcases ho with rfl | rfl <;>
    · simp only [execOp, hv', e1, hkv, run_bind, hup, run_pure]
  unfold Oper.wp
  rw [hrun, Oper.upon_skip]
  refine ⟨gs, own, ?_⟩
  show SatD X Γ _ a _ gs own
  refine hs.update hv (by rw [hi]; simp) (fut_setObj.mono fun x _ hx => by subst hx; exact e2) ?_
  have hL : Later (X.S own) w (X.S own) { w with heap := w.heap.setIfInBounds r (.map (es.push ⟨kv k, a.eval z, c⟩) (c + 1)) } := fut_setObj.later (fun b _ hb => by subst hb; exact .inr (by rw [e2]; rfl)) (fun _ _ k => k)
  rw [hv', e1]
  refine ⟨r, _, _, rfl, e2, set_get e3, ?_⟩
  rw [Array.toList_push]
  have h1 : MEnts kv gs (X.S own) w [(k, e)] [⟨kv k, a.eval z, c⟩] := .cons rfl hze .nil
  exact (MEnts.append h1 e4).mono (fun _ _ k => k) hL
theorem op_lookupE {TK TV : Nat} {ez : Ent} {zv : Value} (hx : Opd Γ x (OS i)) (hi : Ω.lookup i = some (MapE kv ml)) (hy : Opd Γ y (D RK k)) (hu : X.P.underlying T = some (.map TK TV)) (hK : KeyOK X.P TK RK kv) (hzv : (X.P.info? TV).bind (·.zero) = some zv) (hez : ∀ gs S w, ez.sem gs S w zv) (hd : Nat.blt d X.n = true) :
    ST X Γ Ω ⟨some d, .lookup T x y true, ty, pos, af, g⟩ ((d, TUP [CaseE ml k ez, D RBool (mfind ml k).isSome]) :: Γ) Ω :=
  ST.val0 rfl hd fun a w gs own hs => by
    have hv : gs i = some (a.eval x) := hx.sat hs
    obtain ⟨v, hv', r, es, c, e1, e2, e3, e4⟩ := hs.obj i _ hi
    rw [hv] at hv'
    simp only [Option.some.injEq] at hv'
    have hkv := hK.rep _ _ _ _ (hy.get hs)
    obtain ⟨kd, k1, k2⟩ := hK.ex
    rcases find_now (P := X.P) (T := TK) (RK := RK) k2 k 0 e4 with ⟨q1, q2⟩ | ⟨e', v', q, q1, q2, q3, _⟩
    · refine ⟨.tuple #[zv, .bool false], ?_, [_, _], rfl, .cons ?_ (.cons ?_ .nil)⟩
      · simp only [execOp, hv', e1, hkv]
        rw [run_value]
        simp only [Instr.lookup, run_bind, run_underlying hu, run_getObj e3 trivial, run_pure, hK.chk, Instr.findKey, run_underlying k1, q2, run_zeroValue hzv, if_true]
      · show (match mfind ml k with | some e => _ | none => _)
        rw [q1]; exact hez _ _ _
      · rw [q1]; exact ro_bool
    · refine ⟨.tuple #[v', .bool true], ?_, [_, _], rfl, .cons ?_ (.cons ?_ .nil)⟩
      · simp only [execOp, hv', e1, hkv]
        rw [run_value]
        simp only [Instr.lookup, run_bind, run_underlying hu, run_getObj e3 trivial, run_pure, hK.chk, Instr.findKey, run_underlying k1, q2, if_true]
      · show (match mfind ml k with | some e => _ | none => _)
        rw [q1]; exact q3
      · rw [q1]; exact ro_bool
theorem Imp.head {e e' : Ent} {t : Nat} (h : ∀ gs S w v, e.sem gs S w v → e'.sem gs S w v) : Imp X ((t, e) :: Γ) Ω ((t, e') :: Γ) Ω := by
  rintro a w ⟨gs, own, hs⟩
  refine ⟨gs, own, { hs with ent := fun q f hq => ?_ }⟩
  rw [lookup_cons] at hq
  by_cases hqt : q = t
  · rw [if_pos hqt] at hq
    simp only [Option.some.injEq] at hq
    subst hq
    subst hqt
    exact h _ _ _ _ (hs.ent q e (by simp [lookup_cons]))
  · rw [if_neg hqt] at hq
    exact hs.ent q f (by rw [lookup_cons, if_neg hqt]; exact hq)
def mhas {κ : Type} [DecidableEq κ] (ks : List κ) (k : κ) : Bool := ks.any fun q => decide (q = k)
theorem mfind_isSome {l : List (κ × Ent)} : (mfind l k).isSome = mhas (l.map Prod.fst) k := by
  induction l with
  | nil => rfl
  | cons p l ih =>
    obtain ⟨k', e⟩ := p
    simp only [mfind, List.map_cons, mhas, List.any_cons] at ih ⊢
    by_cases h : k' = k
    · subst h; simp
    · rw [if_neg h, ih]; simp [h]
theorem vH {TK TV : Nat} (hx : Opd Γ x (OS i)) (hy : Opd Γ y (D RK k)) (hu : X.P.underlying T = some (.map TK TV)) (hK : KeyOK X.P TK RK kv) (hz : hasZero X.P TV = true) (hi : Ω.lookup i = some (MapE kv ml) := by first | rfl | exact AOC.get rfl) (hd : Nat.blt d X.n = true := by rfl) :
    ST X Γ Ω ⟨some d, .lookup T x y true, ty, pos, af, g⟩ ((d, TUP [CaseE ml k Ent.top, D RBool (mhas (ml.map Prod.fst) k)]) :: Γ) Ω := by
  obtain ⟨zv, h⟩ := hasZero_get hz
  rw [← mfind_isSome]
  exact op_lookupE hx hi hy hu hK h (fun _ _ _ => trivial) hd
/-- A map of data. -/
def mD {ν : Type} (R : RT ν) (l : List (κ × ν)) : List (κ × Ent) := l.map fun p => (p.1, D R p.2)
def mget {ν : Type} (l : List (κ × ν)) (k : κ) : Option ν := match l with
  | [] => none
  | (k', v) :: t => if k' = k then some v else mget t k
theorem mfind_mD {ν : Type} {R : RT ν} {l : List (κ × ν)} : mfind (mD R l) k = (mget l k).map fun v => D R v := by
  induction l with
  | nil => rfl
  | cons p l ih =>
    obtain ⟨k', v⟩ := p
    simp only [mD, List.map_cons, mfind, mget] at ih ⊢
    split
    · rfl
    · exact ih
theorem vF {ν : Type} {Rv : RT ν} {dl : List (κ × ν)} {v : ν} {o2 : Op} {TK TV : Nat} (ho : o2 = .insert T x y z ∨ o2 = .mapUpdate T x y z) (hx : Opd Γ x (OS i)) (hy : Opd Γ y (D RK k)) (hz : Opd Γ z (D Rv v)) (hu : X.P.underlying T = some (.map TK TV)) (hK : KeyOK X.P TK RK kv) (hk : (mget dl k).isNone = true) (hi : Ω.lookup i = some (MapE kv (mD Rv dl)) := by first | rfl | exact AOC.get rfl) :
    ST X Γ Ω ⟨none, o2, ty, pos, af, g⟩ Γ ((i, MapE kv (mD Rv (dl ++ [(k, v)]))) :: Ω) := by
  have h := vg (ty := ty) (pos := pos) (af := af) (g := g) ho hx hy hz hu hK hi (by rw [mfind_mD]; rw [Option.isNone_iff_eq_none] at hk; rw [hk]; rfl)
  have : mD Rv (dl ++ [(k, v)]) = mD Rv dl ++ [(k, D Rv v)] := by simp [mD]
  rw [this]; exact h
theorem vG {ν : Type} {Rv : RT ν} {dl : List (κ × ν)} {zd : ν} {TK TV : Nat} (hx : Opd Γ x (OS i)) (hy : Opd Γ y (D RK k)) (hu : X.P.underlying T = some (.map TK TV)) (hK : KeyOK X.P TK RK kv) (hz : ZeroOK X.P TV Rv zd) (hi : Ω.lookup i = some (MapE kv (mD Rv dl)) := by first | rfl | exact AOC.get rfl) (hd : Nat.blt d X.n = true := by rfl) :
    ST X Γ Ω ⟨some d, .lookup T x y true, ty, pos, af, g⟩ ((d, TUP [D Rv ((mget dl k).getD zd), D RBool (mget dl k).isSome]) :: Γ) Ω := by
  obtain ⟨zv, h1, h2⟩ := hz.ex
  refine (op_lookupE (ez := D Rv zd) hx hi hy hu hK h1 (fun _ S w => h2 S w) hd).imp (Imp.head ?_)
  rintro gs S w v ⟨vs, rfl, hv⟩
  refine ⟨vs, rfl, ?_⟩
  cases hv with
  | cons ha t => cases t with
    | cons hb t =>
      refine .cons ?_ (.cons ?_ t)
      · have ha' : (match mfind (mD Rv dl) k with | some e => e.sem gs S w _ | none => (D Rv zd).sem gs S w _) := ha
        rw [mfind_mD] at ha'
        cases hm : mget dl k with
        | none => rw [hm] at ha'; exact ha'
        | some v => rw [hm] at ha'; exact ha'
      · have hb' : (D RBool ((mfind (mD Rv dl) k).isSome)).sem gs S w _ := hb
        rw [mfind_mD, Option.isSome_map] at hb'
        exact hb'
theorem KeepsO.mD {ks : List Nat} {ν : Type} {Rv : RT ν} {dl : List (κ × ν)} : KeepsO ks (MapE kv (mD Rv dl)) := fun gs v B S w ⟨r, es, c, h1, h2, h3, h4⟩ => ⟨r, es, c, h1, h2, h3, by
  have : ∀ {dl : List (κ × ν)} {ms}, MEnts kv gs S w (Trw.mD Rv dl) ms → MEnts kv (keepOf ks gs) S w (Trw.mD Rv dl) ms := by
    intro dl
    induction dl with
    | nil => intro ms h; cases h; exact .nil
    | cons p dl ih => intro ms h; cases h with | cons a b t => exact .cons a b (ih t)
  exact this h4⟩
theorem RenO.mD {σ : List (Nat × Nat)} {ν : Type} {Rv : RT ν} {dl : List (κ × ν)} : RenO σ (MapE kv (mD Rv dl)) (MapE kv (mD Rv dl)) := fun gs v B S w ⟨r, es, c, h1, h2, h3, h4⟩ => ⟨r, es, c, h1, h2, h3, by
  have : ∀ {dl : List (κ × ν)} {ms}, MEnts kv gs S w (Trw.mD Rv dl) ms → MEnts kv (gsOf σ gs) S w (Trw.mD Rv dl) ms := by
    intro dl
    induction dl with
    | nil => intro ms h; cases h; exact .nil
    | cons p dl ih => intro ms h; cases h with | cons a b t => exact .cons a b (ih t)
  exact this h4⟩
/-- Slots that hold one entry. -/
inductive AllE (Γ : Gam) (e : Ent) : List Nat → Prop
  | nil : AllE Γ e []
  | cons {t ts} : Γ.lookup t = some e → AllE Γ e ts → AllE Γ e (t :: ts)
theorem AllE.get {e : Ent} : ∀ {ts : List Nat}, AllE Γ e ts → ∀ t ∈ ts, Γ.lookup t = some e
  | _, .nil, _, h => nomatch h
  | _, .cons h t, q, hq => by
    rcases List.mem_cons.1 hq with rfl | k
    · exact h
    · exact t.get q k
theorem Imp.see {e e' : Ent} {ts : List Nat} (ht : AllE Γ e ts) (h : ∀ gs S w v, e.sem gs S w v → e'.sem gs S w v) : Imp X Γ Ω (ts.map (fun t => (t, e')) ++ Γ) Ω := by
  rintro a w ⟨gs, own, hs⟩
  refine ⟨gs, own, { hs with ent := fun q f hq => ?_ }⟩
  rw [lookup_append_some] at hq
  split at hq
  · rename_i f' hl
    simp only [Option.some.injEq] at hq
    subst hq
    have hmem : q ∈ ts ∧ f' = e' := by
      clear ht
      induction ts with
      | nil => simp at hl
      | cons p ts ih =>
        rw [List.map_cons, lookup_cons] at hl
        by_cases hp : q = p
        · rw [if_pos hp] at hl; simp only [Option.some.injEq] at hl; exact ⟨by simp [hp], hl.symm⟩
        · rw [if_neg hp] at hl
          obtain ⟨h1, h2⟩ := ih hl
          exact ⟨by simp [h1], h2⟩
    rw [hmem.2]
    exact h _ _ _ _ (hs.ent q e (ht.get q hmem.1))
  · exact hs.ent q f hq
theorem CaseE.see {ml : List (κ × Ent)} {ez e : Ent} (h : mfind ml k = some e) : ∀ gs S w v, (CaseE ml k ez).sem gs S w v → e.sem gs S w v := fun gs S w v hv => by
  have hv' : (match mfind ml k with | some e => e.sem gs S w v | none => ez.sem gs S w v) := hv
  rw [h] at hv'; exact hv'
end
end Go.Trw
