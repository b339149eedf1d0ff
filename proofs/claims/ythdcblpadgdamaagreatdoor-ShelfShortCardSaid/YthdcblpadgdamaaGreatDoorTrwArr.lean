/- Own work: arrays of pointers into the call's own variables; a loop taken round by round. -/
import Derived.Test.YthdcblpadgdamaaGreatDoorTrwZ
set_option linter.all false
namespace Go.Trw
open Go
/-- Any value of one cell. -/
def RRaw : RT Value where
  agg := false
  size := 1
  rep _ _ cs v := cs = [v] ∧ cellv v = true
  len := fun h => by rw [h.1]; rfl
  flat := fun h v hv => by rw [h.1] at hv; simp at hv; subst hv; exact h.2
  one := fun _ => rfl
  stable := fun h _ => h
theorem RRaw.of {S : Nat → Prop} {w : World} {v : Value} (h : cellv v = true) : RRaw.val S w v v := ⟨fun k => (nomatch k), fun _ => ⟨rfl, h⟩⟩
theorem RRaw.eq {S : Nat → Prop} {w : World} {v u : Value} (h : RRaw.val S w v u) : v = u := by
  have := (h.2 rfl).1
  simpa using this
/-- An array of which each element is known. -/
def AE (es : List Ent) : Ent := ⟨fun gs S w v => ∃ vs : List Value, (RArr es.length RRaw).val S w v vs ∧ Sems gs S w es vs, fun hg hl ⟨vs, h1, h2⟩ => ⟨vs, RT.val_stable h1 hl, h2.mono hg hl⟩⟩
def CellE (e : Ent) : Prop := ∀ gs S w v, e.sem gs S w v → cellv v = true
theorem CellE.bp {i o : Nat} : CellE (BP i o) := fun _ _ _ _ ⟨_, _, h⟩ => by rw [h]; rfl
inductive OpAll (Γ : Gam) : Nat → List (Nat × Operand) → List Ent → Prop
  | nil {k} : OpAll Γ k [] []
  | cons {k t e ps es} : Γ.lookup t = some e → CellE e → OpAll Γ (k + 1) ps es → OpAll Γ k ((k, .tmp t) :: ps) (e :: es)
def rawΓ (a : Act) (ts : List Nat) : Gam := ts.map fun t => (t, D RRaw (a.tmps.getD t undef))
theorem rawΓ_get {a : Act} : ∀ {ts : List Nat} {t : Nat} {e : Ent}, (rawΓ a ts).lookup t = some e → e = D RRaw (a.tmps.getD t undef)
  | [], _, _, h => by simp [rawΓ] at h
  | x :: ts, t, e, h => by
    unfold rawΓ at h
    rw [List.map_cons, lookup_cons] at h
    by_cases hx : t = x
    · subst hx; rw [if_pos rfl] at h; exact (Option.some.inj h).symm
    · rw [if_neg hx] at h; exact rawΓ_get h
theorem rawΓ_has {a : Act} : ∀ {ts : List Nat} {t : Nat}, t ∈ ts → (rawΓ a ts).lookup t = some (D RRaw (a.tmps.getD t undef))
  | x :: ts, t, h => by
    unfold rawΓ
    rw [List.map_cons, lookup_cons]
    by_cases hx : t = x
    · subst hx; simp
    · rw [if_neg hx]; exact rawΓ_has (by simpa [hx] using h)
def slotsOf (ps : List (Nat × Operand)) : List Nat := ps.map fun p => match p.2 with | .tmp t => t | _ => 0
theorem OpAll.lits {Γ : Gam} {a : Act} {T : List Nat} : ∀ {k : Nat} {ps : List (Nat × Operand)} {es : List Ent}, OpAll Γ k ps es → (∀ t ∈ slotsOf ps, t ∈ T) → Lits (rawΓ a T) RRaw k ps (ps.map fun p => a.eval p.2)
  | _, _, _, .nil, _ => .nil
  | _, _, _, .cons (t := t) h1 h2 h3, hT => .cons (Opd.tmp (rawΓ_has (hT t (by simp [slotsOf])))) (h3.lits (fun t ht => hT t (by simp only [slotsOf, List.map_cons, List.mem_cons] at ht ⊢; exact .inr ht)))
theorem OpAll.sems {Γ : Gam} {gs : Nat → Option Value} {S : Nat → Prop} {w : World} {a : Act} (ha : ∀ t e, Γ.lookup t = some e → e.sem gs S w (a.tmps.getD t undef)) : ∀ {k : Nat} {ps : List (Nat × Operand)} {es : List Ent}, OpAll Γ k ps es → Sems gs S w es (ps.map fun p => a.eval p.2) ∧ ∀ t ∈ slotsOf ps, cellv (a.tmps.getD t undef) = true
  | _, _, _, .nil => ⟨.nil, fun t ht => by simp [slotsOf] at ht⟩
  | _, _, _, .cons (t := t) h1 h2 h3 => by
    obtain ⟨k1, k2⟩ := h3.sems ha
    have h := ha t _ h1
    refine ⟨.cons h k1, fun x hx => ?_⟩
    simp only [slotsOf, List.map_cons, List.mem_cons] at hx
    rcases hx with rfl | hx
    · exact h2 _ _ _ _ h
    · exact k2 x (by simpa [slotsOf] using hx)
theorem OpAll.length {Γ : Gam} : ∀ {k : Nat} {ps : List (Nat × Operand)} {es : List Ent}, OpAll Γ k ps es → ps.length = es.length
  | _, _, _, .nil => rfl
  | _, _, _, .cons _ _ h => by simp [h.length]
section
variable {X : Ctx} {Γ : Gam} {Ω : Omg} {x y : Operand} {d ty T E : Nat} {pos : String} {af : Array Edge} {g : Option (Nat × Bool)}
theorem op_buildArrE {N : Nat} {ps : List (Nat × Operand)} {es : List Ent} {α : Type} {R : RT α} {z : List α} (hu : X.P.underlying T = some (.array N E)) (hE : TyOK X.P E R) (hz : ZeroOK X.P T (RArr N R) z) (h : OpAll Γ 0 ps es) (hR : R.size = 1 := by rfl) (hn : es.length = N := by rfl) (hd : Nat.blt d X.n = true := by rfl) :
    ST X Γ Ω ⟨some d, .build T ps.toArray, ty, pos, af, g⟩ ((d, AE es) :: Γ) Ω :=
  ST.val0 rfl hd fun a w gs own hs => by
    subst hn
    obtain ⟨zv, h1, h2⟩ := hz.ex
    obtain ⟨hse, hcv⟩ := h.sems hs.ent
    have hlen := h.length
    have hzr := RT.val_cells (h2 (X.S own) w)
    have hsz : zv.cells.size = es.length * 1 := by have := hzr.2.1; rw [hR] at this; simpa using this
    have hl := h.lits (a := a) (T := slotsOf ps) (fun t ht => ht)
    have hal : ∀ t e, (rawΓ a (slotsOf ps)).lookup t = some e → e.sem gs (X.S own) w (a.tmps.getD t undef) := fun t e he => by
      rw [rawΓ_get he]
      have : t ∈ slotsOf ps := by
        have : ∀ {ts : List Nat} {t : Nat} {e : Ent}, (rawΓ a ts).lookup t = some e → t ∈ ts := by
          intro ts
          induction ts with
          | nil => intro t e h; simp [rawΓ] at h
          | cons x ts ih =>
            intro t e h
            unfold rawΓ at h
            rw [List.map_cons, lookup_cons] at h
            by_cases hx : t = x
            · subst hx; simp
            · rw [if_neg hx] at h; exact List.mem_cons_of_mem _ (ih h)
        exact this he
      exact RRaw.of (hcv t this)
    obtain ⟨mc, m1, m2, m3, m4⟩ := hl.run hal (cells := zv.cells) (by rw [Nat.zero_add, hsz, List.length_map, hlen]; exact Nat.le_refl _)
    have m1' : mc.length = es.length := by rw [m1, List.length_map, hlen]; exact Nat.mul_one _
    have hspl : splice zv.cells.toList (0 * RRaw.size) mc = mc := by
      simp only [splice, Nat.zero_mul, List.take_zero, List.nil_append, Nat.zero_add]
      rw [List.drop_eq_nil_of_le (by rw [m1', Array.length_toList, hsz]; omega), List.append_nil]
    rw [hspl] at m4
    refine ⟨.agg mc.toArray, ?_, _, ⟨fun _ => ⟨_, rfl, by rw [List.length_map, hlen], by show mc.length = _; rw [m1']; exact (Nat.mul_one _).symm, m2⟩, fun k => nomatch k⟩, hse⟩
    have e : (Instr.build T (ps.toArray.map fun p => (p.1, a.eval p.2))).run X.P w = .ok (.agg mc.toArray) w := by
      unfold Instr.build
      rw [run_bind, run_zeroValue h1]
      simp only []
      rw [run_bind, run_underlying hu]
      simp only []
      rw [run_bind, hE.run_size]
      have : (ps.toArray.map fun p => (p.1, a.eval p.2)).toList = ps.map fun p => (p.1, a.eval p.2) := by simp
      have m4' : Instr.fill (fun i => some (i * R.size, R.size)) zv.cells (ps.map fun p => (p.1, a.eval p.2)) = some mc.toArray := by rw [hR]; exact m4
      simp only [this, m4', run_pure]
    simp only [execOp]
    rw [run_value, e]
theorem op_indexE {k : IntKind} {n : Int} {N : Nat} {es : List Ent} {e : Ent} {α : Type} {R : RT α} (hx : Opd Γ x (AE es)) (hy : Opd Γ y (D (RInt k) n)) (hu : X.P.underlying T = some (.array N E)) (hE : TyOK X.P E R) (j : Nat) (hj : n = (j : Int) := by decide) (he : es[j]? = some e := by rfl) (hR : (R.size == 1 && !R.agg) = true := by rfl) (hn : es.length = N := by rfl) (hd : Nat.blt d X.n = true := by rfl) :
    ST X Γ Ω ⟨some d, .index T x y, ty, pos, af, g⟩ ((d, e) :: Γ) Ω :=
  ST.val0 rfl hd fun a w gs own hs => by
    subst hn hj
    obtain ⟨vs, hv, hse⟩ := hx.sat hs
    obtain ⟨cs, h1, h2⟩ := hv.1 rfl
    obtain ⟨h3, _⟩ := RInt.val_iff.1 (hy.get hs)
    simp only [Bool.and_eq_true, beq_iff_eq, Bool.not_eq_true'] at hR
    have hE' : TyOK X.P E RRaw := ⟨by rw [hE.sz, hR.1]; rfl, by rw [hE.ag, hR.2]; rfl⟩
    obtain ⟨v, hv1, hv2⟩ := hse.get he
    have hlt : j < vs.length := by
      rcases Nat.lt_or_ge j vs.length with k | k
      · exact k
      · simp [List.getElem?_eq_none k] at hv1
    have hlen := hse.length
    have hb : 0 ≤ (j : Int) ∧ (j : Int) < (es.length : Int) := ⟨by omega, by omega⟩
    letI : Inhabited Value := ⟨undef⟩
    have hr := (RArr.fieldOf (R := RRaw) hb).get h2
    have hnth : nth vs (j : Int) = v := by
      unfold nth
      rw [List.getD_eq_getElem?_getD, Int.toNat_natCast, hv1]; rfl
    rw [hnth] at hr
    refine ⟨v, ?_, hv2⟩
    have he2 := RRaw.eq (RT.val_of hr)
    simp only [execOp, h1, h3]
    rw [run_value]
    simp only [Instr.index, asIntOf, run_bind, run_underlying hu, pure, Sem.run]
    rw [if_pos hb]
    simp only [run_bind, hE'.run_size]
    rw [run_part hE' hr]
    simp only []
    rw [he2]
end
/-! ### A loop, round by round -/
def WLn (P : Program) (c : Code) (Q : Exit → Act → World → Prop) : Nat → Act → World → Prop
  | 0, _, _ => False
  | n + 1, a, w => c.wp P (Exit.then (WLn P c Q n) Q) a w
section
variable {X : Ctx} {Γ : Gam} {Ω : Omg} {Q : Exit → Act → World → Prop}
theorem JC.unroll {c : Code} (n : Nat) (h : JC X Γ Ω c (Exit.then (WLn X.P c Q n) Q)) : JC X Γ Ω (.loop c) Q := fun a w hs =>
  wp_loop_ghost (I := fun n a w => WLn X.P c Q n a w) (fun n a w hI => by
    cases n with
    | zero => exact hI.elim
    | succ n =>
      refine wp_mono (show c.wp X.P (Exit.then (WLn X.P c Q n) Q) a w from hI) ?_
      intro e a w hq
      cases e with
      | normal => exact ⟨n, Nat.lt_succ_self n, hq⟩
      | _ => exact hq) (n + 1) a w (h a w hs)
theorem JE.again {c : Code} {n : Nat} (h : JC X Γ Ω c (Exit.then (WLn X.P c Q n) Q)) : JE X Γ Ω (Exit.then (WLn X.P c Q (n + 1)) Q) .normal := h
theorem JC.condT {c : Operand} {x y : Code} {b : Bool} (ht : Opd Γ c (D RBool b)) (hb : b = true) (h : JC X Γ Ω x Q) : JC X Γ Ω (.cond c x y) Q := JC.cond ht (fun _ => h) (fun k => by rw [hb] at k; cases k)
theorem JC.condF {c : Operand} {x y : Code} {b : Bool} (ht : Opd Γ c (D RBool b)) (hb : b = false) (h : JC X Γ Ω y Q) : JC X Γ Ω (.cond c x y) Q := JC.cond ht (fun k => by rw [hb] at k; cases k) (fun _ => h)
end
/-! ### A guarded operation that acts: by the two cases of its guard -/
section
variable {X : Ctx} {Γ : Gam} {Ω : Omg} {all : Array Oper} {os : List Oper} {Q : Exit → Act → World → Prop}
theorem gsp {γ : Sort _} {A B r : γ} (b : Bool) (hm : (if b = true then A else B) = r) (h1 : b = true → A = r → JL X all Γ Ω os Q) (h2 : b = false → B = r → JL X all Γ Ω os Q) : JL X all Γ Ω os Q := by
  cases hb : b with
  | true => exact h1 hb (of_pos hb hm)
  | false => exact h2 hb (of_neg hb hm)
theorem JL.stepG {o oj : Oper} {j t : Nat} {want b : Bool} {Γ' : Gam} {Ω' : Omg} (hb : b = want) (h : ST X Γ Ω o Γ' Ω') (k : JL X all Γ' Ω' os Q)
    (hg : o.guard = some (j, want) := by rfl) (hj : all[j]? = some oj := by rfl) (hdst : oj.dst = some t := by rfl) (ht : Γ.lookup t = some (D RBool b) := by rfl) : JL X all Γ Ω (o :: os) Q := by
  intro a w hs
  have hv : a.tmps.getD t undef = .bool b := by
    obtain ⟨gs, own, hs⟩ := hs
    exact RBool.val_iff.1 (hs.ent t _ ht)
  have hy := yielded_bool hj hdst hv
  simp only [wpList]
  rw [if_pos (by simp [Region.wanted, hg, hy, hb])]
  exact Oper.wp_mono (fun a w hw => k a w hw) (h a w Q hs)
theorem JL.skipG {o oj : Oper} {j t d : Nat} {want b : Bool} (hb : b = !want) (k : JL X all ((d, Ent.raw undef) :: Γ) Ω os Q)
    (hg : o.guard = some (j, want) := by rfl) (hj : all[j]? = some oj := by rfl) (hdst : oj.dst = some t := by rfl) (ht : Γ.lookup t = some (D RBool b) := by rfl) (ho : o.dst = some d := by rfl) (hd : Nat.blt d X.n = true := by rfl) : JL X all Γ Ω (o :: os) Q := by
  intro a w hs
  have hv : a.tmps.getD t undef = .bool b := by
    obtain ⟨gs, own, hs⟩ := hs
    exact RBool.val_iff.1 (hs.ent t _ ht)
  have hy := yielded_bool hj hdst hv
  simp only [wpList]
  rw [if_neg (by simp [Region.wanted, hg, hy, hb]), ho]
  exact k _ _ (hs.top d undef _ (fun gs S w => rfl) (lt_of_blt hd))
end
section
variable {X : Ctx} {Γ : Gam} {Ω : Omg} {x y z : Operand} {d ty : Nat} {pos : String} {af : Array Edge} {g : Option (Nat × Bool)}
theorem op_pickT {b : Bool} {e : Ent} (hc : Opd Γ x (D RBool b)) (hb : b = true) (hy : Opd Γ y e) (hd : Nat.blt d X.n = true := by rfl) : ST X Γ Ω ⟨some d, .pick x y z, ty, pos, af, g⟩ ((d, e) :: Γ) Ω :=
  ST.val0 rfl hd fun a w gs own hs => by
    have h1 := RBool.val_iff.1 (hc.get hs)
    subst hb
    exact ⟨_, run_pick h1, hy.sat hs⟩
theorem op_pickF {b : Bool} {e : Ent} (hc : Opd Γ x (D RBool b)) (hb : b = false) (hz : Opd Γ z e) (hd : Nat.blt d X.n = true := by rfl) : ST X Γ Ω ⟨some d, .pick x y z, ty, pos, af, g⟩ ((d, e) :: Γ) Ω :=
  ST.val0 rfl hd fun a w gs own hs => by
    have h1 := RBool.val_iff.1 (hc.get hs)
    subst hb
    exact ⟨_, run_pick h1, hz.sat hs⟩
end
section
variable {X : Ctx} {Γ : Gam} {Ω : Omg} {all : Array Oper} {Q : Exit → Act → World → Prop}
theorem gsc {γ : Sort _} {A B r : γ} {c : Code} (b : Bool) (hm : (if b = true then A else B) = r) (h1 : b = true → A = r → JC X Γ Ω c Q) (h2 : b = false → B = r → JC X Γ Ω c Q) : JC X Γ Ω c Q := by
  cases hb : b with
  | true => exact h1 hb (of_pos hb hm)
  | false => exact h2 hb (of_neg hb hm)
theorem GS.stepG {o oj : Oper} {j t : Nat} {want b : Bool} {Γ' : Gam} {Ω' : Omg} (hb : b = want) (h : ST X Γ Ω o Γ' Ω')
    (hg : o.guard = some (j, want) := by rfl) (hj : all[j]? = some oj := by rfl) (hdst : oj.dst = some t := by rfl) (ht : Γ.lookup t = some (D RBool b) := by first | rfl | exact AGC.get rfl) : GS X all Γ Ω o Γ' Ω' := by
  intro a w Q hs
  have hv : a.tmps.getD t undef = .bool b := by
    obtain ⟨gs, own, hs⟩ := hs
    exact RBool.val_iff.1 (hs.ent t _ ht)
  have hy := yielded_bool hj hdst hv
  rw [if_pos (by simp [Region.wanted, hg, hy, hb])]
  exact h a w Q hs
theorem GS.skipG {o oj : Oper} {j t d : Nat} {want b : Bool} (hb : b = !want)
    (hg : o.guard = some (j, want) := by rfl) (hj : all[j]? = some oj := by rfl) (hdst : oj.dst = some t := by rfl) (ht : Γ.lookup t = some (D RBool b) := by first | rfl | exact AGC.get rfl) (ho : o.dst = some d := by rfl) (hd : Nat.blt d X.n = true := by rfl) : GS X all Γ Ω o ((d, Ent.raw undef) :: Γ) Ω := by
  intro a w Q hs
  have hv : a.tmps.getD t undef = .bool b := by
    obtain ⟨gs, own, hs⟩ := hs
    exact RBool.val_iff.1 (hs.ent t _ ht)
  have hy := yielded_bool hj hdst hv
  rw [if_neg (by simp [Region.wanted, hg, hy, hb]), ho]
  exact hs.top d undef _ (fun gs S w => rfl) (lt_of_blt hd)
end
end Go.Trw
