/- Own work: states under other names of the objects. -/
import Derived.Test.YthdcblpadgdamaaGreatDoorTrwSlice
set_option linter.all false
namespace Go.Trw
open Go
theorem Ren.raw {σ : List (Nat × Nat)} {v : Value} : Ren σ (Ent.raw v) (Ent.raw v) := fun _ _ _ _ h => h
theorem Ren.top {σ : List (Nat × Nat)} {e : Ent} : Ren σ e Ent.top := fun _ _ _ _ _ => trivial
theorem Ren.when {σ : List (Nat × Nat)} {c : Prop} {e e' : Ent} (h : Ren σ e e') : Ren σ (.when c e) (.when c e') := fun _ _ _ _ hv => ⟨fun hc => h _ _ _ _ (hv.1 hc), hv.2⟩
/-- An object under other names. -/
def RenO (σ : List (Nat × Nat)) (e e' : OEnt) : Prop := ∀ gs v B S w, e.holds gs v B S w → e'.holds (gsOf σ gs) v B S w
theorem RenO.box {σ : List (Nat × Nat)} {α : Type} {φ : Value → Prop} {R : RT α} {T : TypeId} {d : α} : RenO σ (BoxAt φ R T d) (BoxAt φ R T d) := fun _ _ _ _ _ h => h
theorem RenO.dead {σ : List (Nat × Nat)} : RenO σ OEnt.dead OEnt.dead := fun _ _ _ _ _ h => h
theorem RenO.sl {σ : List (Nat × Nat)} {α : Type} {R : RT α} {E : TypeId} {l : List α} : RenO σ (OwnSl R E l) (OwnSl R E l) := fun _ _ _ _ _ h => h
theorem KeepsO.sl {ks : List Nat} {α : Type} {R : RT α} {E : TypeId} {l : List α} : KeepsO ks (OwnSl R E l) := fun _ _ _ _ _ h => h
inductive CVR (σ : List (Nat × Nat)) (Γ : Gam) : Gam → Prop
  | nil : CVR σ Γ []
  | cons {t e e' Γ'} : Γ.lookup t = some e → Ren σ e e' → CVR σ Γ Γ' → CVR σ Γ ((t, e') :: Γ')
inductive OVR (σ : List (Nat × Nat)) (Ω : Omg) : List (Nat × Nat) → Omg → Prop
  | nil : OVR σ Ω [] []
  | cons {i i' e e' τ Ω'} : Ω.lookup i = some e → RenO σ e e' → OVR σ Ω τ Ω' → OVR σ Ω ((i', i) :: τ) ((i', e') :: Ω')
theorem CVR.get {σ : List (Nat × Nat)} {Γ : Gam} : ∀ {Γ' : Gam} {t : Nat} {e' : Ent}, CVR σ Γ Γ' → Γ'.lookup t = some e' → ∃ e, Γ.lookup t = some e ∧ Ren σ e e'
  | _, _, _, .nil, h => by simp at h
  | _, t, e, .cons (t := t') h1 h2 h3, h => by
    rw [lookup_cons] at h
    by_cases ht : t = t'
    · subst ht; simp only [if_true, Option.some.injEq] at h; subst h; exact ⟨_, h1, h2⟩
    · rw [if_neg ht] at h; exact h3.get h
theorem OVR.get {σ : List (Nat × Nat)} {Ω : Omg} : ∀ {τ : List (Nat × Nat)} {Ω' : Omg} {i' : Nat} {e' : OEnt}, OVR σ Ω τ Ω' → Ω'.lookup i' = some e' → ∃ i e, τ.lookup i' = some i ∧ Ω.lookup i = some e ∧ RenO σ e e'
  | _, _, _, _, .nil, h => by simp at h
  | _, _, t, e, .cons (i' := t') h1 h2 h3, h => by
    rw [lookup_cons] at h ⊢
    by_cases ht : t = t'
    · subst ht; simp only [if_true, Option.some.injEq] at h; subst h; exact ⟨_, _, by simp, h1, h2⟩
    · rw [if_neg ht] at h ⊢; exact h3.get h
theorem OVR.keys {σ : List (Nat × Nat)} {Ω : Omg} : ∀ {τ : List (Nat × Nat)} {Ω' : Omg} {i' : Nat}, OVR σ Ω τ Ω' → τ.lookup i' ≠ none → Ω'.lookup i' ≠ none
  | _, _, _, .nil, h => by simp at h
  | _, _, t, .cons (i' := t') h1 h2 h3, h => by
    rw [lookup_cons] at h ⊢
    by_cases ht : t = t'
    · subst ht; simp
    · rw [if_neg ht] at h ⊢; exact h3.keys h
/-- The same state under other names; σ: new name, old name. -/
theorem Sat.convR {X : Ctx} {Γ Γ' : Gam} {Ω Ω' : Omg} {a : Act} {w : World} (σ : List (Nat × Nat)) (hn1 : (σ.map Prod.fst).Nodup) (hn2 : (σ.map Prod.snd).Nodup) (hΓ : CVR σ Γ Γ') (hΩ : OVR σ Ω σ Ω') (h : Sat X Γ Ω a w) : Sat X Γ' Ω' a w := by
  obtain ⟨gs, own, hs⟩ := h
  have hown : ∀ b i', ownOf σ own b = some i' ↔ ∃ i, own b = some i ∧ σ.lookup i' = some i := by
    intro b i'
    constructor
    · intro h
      obtain ⟨i, k1, k2⟩ := Option.bind_eq_some_iff.1 h
      exact ⟨i, k1, inv_lookup' hn1 k2⟩
    · rintro ⟨i, k1, k2⟩
      exact Option.bind_eq_some_iff.2 ⟨i, k1, inv_lookup hn2 k2⟩
  have hL : Later (X.S own) w (X.S (ownOf σ own)) w := Later.less_of fun b _ hb => by
    rcases hb with hb | hb
    · exact .inl hb
    · right
      cases ho : own b with
      | none => simp [ownOf, ho] at hb
      | some i => rfl
  refine ⟨gsOf σ gs, ownOf σ own, {
    size := hs.size
    defers := hs.defers
    glob := hs.glob.later hL
    fut := hs.fut
    olt := hs.olt
    ownok := fun b i' hb => by
      obtain ⟨i, k1, k2⟩ := (hown b i').1 hb
      exact hs.ownok b i k1
    keys := fun i' hi => hΩ.keys fun k => hi (by simp [gsOf, k])
    okeys := fun b i' hb => by
      obtain ⟨i, k1, k2⟩ := (hown b i').1 hb
      exact hΩ.keys (by rw [k2]; simp)
    obj := fun i' e' hi => by
      obtain ⟨i, e, k1, k2, k3⟩ := hΩ.get hi
      obtain ⟨v, h1, h2⟩ := hs.obj i e k2
      refine ⟨v, by simp [gsOf, k1, h1], ?_⟩
      have hB : (fun b => ownOf σ own b = some i') = (fun b => own b = some i) := by
        funext b
        rw [eq_iff_iff, hown b i']
        constructor
        · rintro ⟨j, l1, l2⟩; rw [k1] at l2; cases l2; exact l1
        · intro h; exact ⟨i, h, k1⟩
      rw [hB]
      exact k3 _ _ _ _ _ (e.stable (fun _ _ k => k) h2 (fun _ _ => rfl) hL)
    ent := fun t e' ht => by
      obtain ⟨e, k1, k2⟩ := hΓ.get ht
      exact k2 _ _ _ _ (e.mono (fun _ _ k => k) hL (hs.ent t e k1)) }⟩
section
variable {X : Ctx} {Γ : Gam} {Ω : Omg} {α β : Type} {R : RT α} {Rf : RT β} {x y z : Operand} {d i j off t t2 ty T E : Nat} {u : α} {l m : List α} {pos : String} {af : Array Edge} {g : Option (Nat × Bool)}
theorem JE.meetR {Γm : Gam} {Ωm : Omg} {K : Act → World → Prop} {Q : Exit → Act → World → Prop} (σ : List (Nat × Nat)) (hK : ∀ a w, Sat X Γm Ωm a w → K a w) (hn1 : (σ.map Prod.fst).Nodup) (hn2 : (σ.map Prod.snd).Nodup) (hΓ : CVR σ Γ Γm) (hΩ : OVR σ Ω σ Ωm) : JE X Γ Ω (Exit.then K Q) .normal :=
  fun a w hs => hK a w (hs.convR σ hn1 hn2 hΓ hΩ)
theorem JL.convR {Γ' : Gam} {Ω' : Omg} {all : Array Oper} {os : List Oper} {Q : Exit → Act → World → Prop} (σ : List (Nat × Nat)) (hn1 : (σ.map Prod.fst).Nodup) (hn2 : (σ.map Prod.snd).Nodup) (hΓ : CVR σ Γ Γ') (hΩ : OVR σ Ω σ Ω') (h : JL X all Γ' Ω' os Q) : JL X all Γ Ω os Q :=
  fun a w hs => h a w (hs.convR σ hn1 hn2 hΓ hΩ)
/-! ### Slices made -/
theorem own_new {w w' : World} {own' : Nat → Option Nat} {v : Value} {j n c : Nat} (h1 : ∀ b, w.heap.size ≤ b → b < w'.heap.size → own' b = some j) (hlt : w.heap.size < w'.heap.size) (hv : v = .slice (some ⟨w.heap.size, 0, none⟩) n c) : ∀ k, v.ownBlock = some k → own' k = some j := by
  subst hv
  intro k hk
  simp [Value.ownBlock] at hk
  subst hk
  exact h1 _ (Nat.le_refl _) hlt
/-- A slice literal that is the call's own. -/
theorem op_buildSlice_own {E n : Nat} {ps : List (Nat × Operand)} {l : List α} (hu : X.P.underlying T = some (.slice E)) (hE : TyOK X.P E R) {zv : Value} (hz : (X.P.info? E).bind (·.zero) = some zv) (hl : Lits Γ R 0 ps l) (hn : l.length = n) (hb : Nat.ble (n * R.size) 16777216 = true) (hb2 : Nat.ble n 16777216 = true) (hd : Nat.blt d X.n = true) (hj : Ω.lookup j = none) :
    ST X Γ Ω ⟨some d, .buildSlice T n ps.toArray, ty, pos, af, g⟩ ((d, OS j) :: Γ) ((j, OwnSl R E l) :: Ω) := by
  rintro a w Q ⟨gs, own, hs⟩
  obtain ⟨cells, h1, h3, h2⟩ := run_buildSlice (d := d) (ty := ty) (pos := pos) (af := af) (g := g) hu hE hz hl hn hb hs
  unfold Oper.wp
  rw [h2, Oper.upon_value]
  obtain ⟨gs', own', k1, k2, k3⟩ := hs.turn (j := j) (v' := .slice (some ⟨w.heap.size, 0, none⟩) l.length l.length) (e := OwnSl R E l) (w' := { w with heap := w.heap.push (.cells cells E) }) none hj (fun i h => nomatch h) ((fut_push _ _).mono fun _ _ k => k.elim)
    (fun own' gs' q1 q2 q3 q4 => by
      refine ⟨cells.toList, ⟨by simpa using h1, .inr ⟨w.heap.size, l.length, cells, rfl, Nat.zero_le _, by simp, Nat.le_refl _, ?_, h1, ?_⟩⟩, ?_, h3.later q3⟩
      · have : l.length ≤ 16777216 := by subst hn; simpa [Nat.ble_eq] using hb2
        exact Nat.le_trans this (by decide)
      · exact List.take_of_length_le (by simp [h1])
      · exact own_new (w := w) (w' := { w with heap := w.heap.push (.cells cells E) }) q2 (by simp) rfl)
  exact ⟨gs', own', k1.put (lt_of_blt hd) (Fut.refl _ _) k2⟩
theorem OpdF.os {F : List Nat} (hx : Opd Γ x (OS i)) (hi : Ω.lookup i = some (OwnSl R E l)) (hF : F.contains i = true) : OpdF Γ Ω F x (D (RSlice R) l) := fun X a w gs own hs => by
  have hv : gs i = some (a.eval x) := hx.sat hs
  obtain ⟨v, hv', xs, hrow, hB, hR⟩ := hs.obj i _ hi
  rw [hv] at hv'
  simp only [Option.some.injEq] at hv'
  subst hv'
  refine RSlice.val_iff.2 ?_
  rcases hrow.2 with ⟨h1, h2⟩ | ⟨b, cap, cur, h1, _, hg, h4, h5, h6, h7⟩
  · have : l = [] := List.eq_nil_of_length_eq_zero h2
    exact ⟨none, 0, 0, h1, h2, Nat.le_refl _, Nat.zero_le _, .inl this⟩
  · have hbi := hB b (by rw [h1]; rfl)
    refine ⟨_, _, _, h1, rfl, h4, Nat.le_trans h4 h5, .inr ⟨b, 0, rfl, ⟨(hs.ownok b i hbi).1, fun k => k.2 ⟨i, hF, hbi⟩⟩, ?_⟩⟩
    have h0 : CellsAt w b 0 cur.toList := CellsAt.of_block (T := E) (f := (0, 0)) (by simpa using hg)
    have hc : CellsAt w b 0 xs := by
      have := h0.part 0 (l.length * R.size)
      rw [List.drop_zero, h7] at this; exact this
    exact (hR.later frz_later).row hc
end
end Go.Trw
