/- Own work: calls by contract, the entry of a function and its return; one state for another; slices of the call's own. -/
import Derived.Test.YthdcblpadgdamaaGreatDoorTrwMore
import Derived.Laws.Sem
set_option linter.all false
namespace Go.Trw
open Go
/-! ### 1. One state for another -/
def keepOf (ks : List Nat) (gs : Nat → Option Value) : Nat → Option Value := fun i => if ks.contains i then gs i else none
/-- An entry that leans on no object but these. -/
def Keeps (ks : List Nat) (e : Ent) : Prop := ∀ gs S w v, e.sem gs S w v → e.sem (keepOf ks gs) S w v
theorem Keeps.dat {ks : List Nat} {α : Type} {R : RT α} {d : α} : Keeps ks (D R d) := fun _ _ _ _ h => h
theorem Keeps.top {ks : List Nat} : Keeps ks Ent.top := fun _ _ _ _ h => h
theorem Keeps.raw {ks : List Nat} {v : Value} : Keeps ks (Ent.raw v) := fun _ _ _ _ h => h
theorem Keeps.bp {ks : List Nat} {i o : Nat} (h : ks.contains i = true) : Keeps ks (BP i o) := fun _ _ _ _ ⟨b, h1, h2⟩ => ⟨b, by simp [keepOf, h1] at *; simp [h], h2⟩
theorem Keeps.os {ks : List Nat} {i : Nat} (h : ks.contains i = true) : Keeps ks (OS i) := fun gs _ _ v hv => by
  have : gs i = some v := hv
  show keepOf ks gs i = some v
  rw [keepOf, if_pos h]; exact this
inductive KeepsAll (ks : List Nat) : List Ent → Prop
  | nil : KeepsAll ks []
  | cons {e es} : Keeps ks e → KeepsAll ks es → KeepsAll ks (e :: es)
theorem KeepsAll.sems {ks : List Nat} {gs S w} : ∀ {es vs}, KeepsAll ks es → Sems gs S w es vs → Sems (keepOf ks gs) S w es vs
  | _, _, .nil, .nil => .nil
  | _, _, .cons h t, .cons h' t' => .cons (h _ _ _ _ h') (t.sems t')
theorem Keeps.fv {ks : List Nat} {g : Nat} {es : List Ent} (h : KeepsAll ks es) : Keeps ks (FV g es) := fun _ _ _ _ ⟨vs, h1, h2⟩ => ⟨vs, h1, h.sems h2⟩
theorem Keeps.tup {ks : List Nat} {es : List Ent} (h : KeepsAll ks es) : Keeps ks (TUP es) := fun _ _ _ _ ⟨vs, h1, h2⟩ => ⟨vs, h1, h.sems h2⟩
theorem Keeps.when {ks : List Nat} {c : Prop} {e : Ent} (h : Keeps ks e) : Keeps ks (.when c e) := fun _ _ _ _ hv => ⟨fun hc => h _ _ _ _ (hv.1 hc), hv.2⟩
/-- The entries of Γ' are Γ's, and lean on ks alone. -/
inductive CV (ks : List Nat) (Γ : Gam) : Gam → Prop
  | nil : CV ks Γ []
  | cons {t e Γ'} : Γ.lookup t = some e → Keeps ks e → CV ks Γ Γ' → CV ks Γ ((t, e) :: Γ')
inductive OV (Ω : Omg) : Omg → Prop
  | nil : OV Ω []
  | cons {i e Ω'} : Ω.lookup i = some e → OV Ω Ω' → OV Ω ((i, e) :: Ω')
/-- An object that leans on no object but these. -/
def KeepsO (ks : List Nat) (e : OEnt) : Prop := ∀ gs v B S w, e.holds gs v B S w → e.holds (keepOf ks gs) v B S w
theorem KeepsO.box {ks : List Nat} {α : Type} {φ : Value → Prop} {R : RT α} {T : TypeId} {d : α} : KeepsO ks (BoxAt φ R T d) := fun _ _ _ _ _ h => h
theorem KeepsO.dead {ks : List Nat} : KeepsO ks OEnt.dead := fun _ _ _ _ _ h => h
inductive OVK (ks : List Nat) (Ω : Omg) : Omg → Prop
  | nil : OVK ks Ω []
  | cons {i e Ω'} : Ω.lookup i = some e → KeepsO ks e → OVK ks Ω Ω' → OVK ks Ω ((i, e) :: Ω')
theorem OVK.ov {ks : List Nat} {Ω : Omg} : ∀ {Ω' : Omg}, OVK ks Ω Ω' → OV Ω Ω'
  | _, .nil => .nil
  | _, .cons h _ t => .cons h t.ov
theorem CV.get {ks : List Nat} {Γ : Gam} : ∀ {Γ' : Gam} {t : Nat} {e : Ent}, CV ks Γ Γ' → Γ'.lookup t = some e → Γ.lookup t = some e ∧ Keeps ks e
  | _, _, _, .nil, h => by simp at h
  | _, t, e, .cons (t := t') h1 h2 h3, h => by
    rw [lookup_cons] at h
    by_cases ht : t = t'
    · subst ht; simp only [if_true, Option.some.injEq] at h; subst h; exact ⟨h1, h2⟩
    · rw [if_neg ht] at h; exact h3.get h
theorem OVK.keep {ks : List Nat} {Ω : Omg} : ∀ {Ω' : Omg} {i : Nat} {e : OEnt}, OVK ks Ω Ω' → Ω'.lookup i = some e → KeepsO ks e
  | _, _, _, .nil, h => by simp at h
  | _, t, e, .cons (i := t') h1 h2 h3, h => by
    rw [lookup_cons] at h
    by_cases ht : t = t'
    · subst ht; simp only [if_true, Option.some.injEq] at h; subst h; exact h2
    · rw [if_neg ht] at h; exact h3.keep h
theorem OV.get {Ω : Omg} : ∀ {Ω' : Omg} {i : Nat} {e : OEnt}, OV Ω Ω' → Ω'.lookup i = some e → Ω.lookup i = some e
  | _, _, _, .nil, h => by simp at h
  | _, t, e, .cons (i := t') h1 h3, h => by
    rw [lookup_cons] at h
    by_cases ht : t = t'
    · subst ht; simp only [if_true, Option.some.injEq] at h; subst h; exact h1
    · rw [if_neg ht] at h; exact h3.get h
theorem lookup_mem {β : Type _} : ∀ {l : List (Nat × β)} {i : Nat}, (l.map Prod.fst).contains i = true ↔ l.lookup i ≠ none
  | [], i => by simp
  | (k, x) :: l, i => by
    rw [lookup_cons]
    by_cases h : i = k
    · subst h; simp
    · have := lookup_mem (l := l) (i := i)
      simp only [if_neg h]
      rw [← this]
      simp [h]
theorem Sat.conv {X : Ctx} {Γ Γ' : Gam} {Ω Ω' : Omg} {a : Act} {w : World} (h : Sat X Γ Ω a w) (hΓ : CV (Ω'.map Prod.fst) Γ Γ') (hΩ : OVK (Ω'.map Prod.fst) Ω Ω') : Sat X Γ' Ω' a w := by
  obtain ⟨gs, own, hs⟩ := h
  have hk : ∀ i, (Ω'.map Prod.fst).contains i = true ↔ Ω'.lookup i ≠ none := fun i => lookup_mem
  have hS : ∀ b, X.S (fun b => match own b with | some i => if (Ω'.map Prod.fst).contains i then some i else none | none => none) b → X.S own b := by
    intro b hb
    rcases hb with hb | hb
    · exact .inl hb
    · right
      cases ho : own b with
      | none => simp [ho] at hb
      | some i => rfl
  have hL : Later (X.S own) w (X.S (fun b => match own b with | some i => if (Ω'.map Prod.fst).contains i then some i else none | none => none)) w := Later.less_of fun b _ hb => hS b hb
  have hown : ∀ b i, (match own b with | some i => if (Ω'.map Prod.fst).contains i then some i else none | none => none) = some i ↔ own b = some i ∧ (Ω'.map Prod.fst).contains i = true := by
    intro b i
    cases ho : own b with
    | none => simp
    | some j =>
      simp only
      constructor
      · intro h; split at h
        · rename_i hc; simp only [Option.some.injEq] at h; subst h; exact ⟨rfl, hc⟩
        · cases h
      · rintro ⟨h1, h2⟩; simp only [Option.some.injEq] at h1; subst h1; rw [if_pos h2]
  refine ⟨keepOf (Ω'.map Prod.fst) gs, _, {
    size := hs.size
    defers := hs.defers
    glob := hs.glob.later hL
    fut := hs.fut
    olt := hs.olt
    ownok := fun b i hb => hs.ownok b i ((hown b i).1 hb).1
    keys := fun i hi => by
      by_cases hc : (Ω'.map Prod.fst).contains i = true
      · exact (hk i).1 hc
      · rw [keepOf, if_neg hc] at hi; exact absurd rfl hi
    okeys := fun b i hb => (hk i).1 ((hown b i).1 hb).2
    obj := fun i e hi => ?_
    ent := fun t e ht => ?_ }⟩
  · have hc : (Ω'.map Prod.fst).contains i = true := (hk i).2 (by rw [hi]; simp)
    obtain ⟨v, h1, h2⟩ := hs.obj i e (hΩ.ov.get hi)
    refine ⟨v, by rw [keepOf, if_pos hc]; exact h1, ?_⟩
    have hB : (fun b => (match own b with | some i => if (Ω'.map Prod.fst).contains i then some i else none | none => none) = some i) = (fun b => own b = some i) := by
      funext b
      rw [eq_iff_iff, hown b i]
      exact ⟨fun h => h.1, fun h => ⟨h, hc⟩⟩
    rw [hB]
    exact hΩ.keep hi _ _ _ _ _ (e.stable (fun _ _ k => k) h2 (fun _ _ => rfl) hL)
  · obtain ⟨h1, h2⟩ := hΓ.get ht
    exact h2 _ _ _ _ (e.mono (fun _ _ k => k) hL (hs.ent t e h1))
theorem JC.conv {X : Ctx} {Γ Γ' : Gam} {Ω Ω' : Omg} {c : Code} {Q : Exit → Act → World → Prop} (hΓ : CV (Ω'.map Prod.fst) Γ Γ') (hΩ : OVK (Ω'.map Prod.fst) Ω Ω') (h : JC X Γ' Ω' c Q) : JC X Γ Ω c Q :=
  fun a w hs => h a w (hs.conv hΓ hΩ)
theorem JL.conv {X : Ctx} {all : Array Oper} {Γ Γ' : Gam} {Ω Ω' : Omg} {os : List Oper} {Q : Exit → Act → World → Prop} (hΓ : CV (Ω'.map Prod.fst) Γ Γ') (hΩ : OVK (Ω'.map Prod.fst) Ω Ω') (h : JL X all Γ' Ω' os Q) : JL X all Γ Ω os Q :=
  fun a w hs => h a w (hs.conv hΓ hΩ)
theorem JE.conv {X : Ctx} {Γ Γ' : Gam} {Ω Ω' : Omg} {e : Exit} {Q : Exit → Act → World → Prop} (hΓ : CV (Ω'.map Prod.fst) Γ Γ') (hΩ : OVK (Ω'.map Prod.fst) Ω Ω') (h : JE X Γ' Ω' Q e) : JE X Γ Ω Q e :=
  fun a w hs => h a w (hs.conv hΓ hΩ)
/-! ### 2. Calls -/
def noGs : Nat → Option Value := fun _ => none
/-- A contract of a function that only computes. -/
def PCon (B : World → Prop) (P : Program) (f : Nat) (ins : List Ent) (out : Ent) : Prop :=
  ∀ (w : World) (O : Nat → Prop) (args : List Value), (∀ b, O b → b < w.heap.size) → GLOB B O w → Sems noGs O w ins args →
    Calls P f args.toArray w (fun e w' => ∃ v, e = .returned v ∧ Fut (fun _ => False) w w' ∧ out.sem noGs O w' v)
def Enters (P : Program) (f : Nat) : Prop := ∀ args w, (callFunc f args).run P w = .ok (.enter f args) w
theorem enters_of {P : Program} {f : Nat} {fn : Func} {c : Code} (hf : P.funcs[f]? = some fn) (hname : (fn.name == "runtime.NumGoroutine") = false) (hb : fn.body = some c) : Enters P f := by
  intro args w
  have h1 : fn.name ≠ "runtime.NumGoroutine" := by simpa using hname
  have hp : program.run P w = .ok P w := rfl
  unfold callFunc
  rw [run_bind, hp]
  simp only [hf]
  rw [if_neg (by rw [hname]; decide), if_neg (by simp [hb])]
  rfl
def enterΓ (ins : List Ent) : Gam := ins.zipIdx.map fun p => (p.2, p.1)
theorem enter_lookup : ∀ (ins : List Ent) (k t : Nat) (e : Ent), ((ins.zipIdx k).map fun p => (p.2, p.1)).lookup t = some e → k ≤ t ∧ ins[t - k]? = some e
  | [], k, t, e, h => by simp at h
  | x :: ins, k, t, e, h => by
    rw [List.zipIdx_cons, List.map_cons, lookup_cons] at h
    by_cases ht : t = k
    · subst ht; simp at h; simp [h]
    · rw [if_neg ht] at h
      have := enter_lookup ins (k + 1) t e h
      refine ⟨by omega, ?_⟩
      rw [show t - k = (t - (k + 1)) + 1 from by omega]
      simpa using this.2
/-- The post of a function that only computes. -/
def RetP (out : Ent) (w0 : World) (O : Nat → Prop) : Ending → World → Prop := fun e w' => ∃ v, e = .returned v ∧ Fut (fun _ => False) w0 w' ∧ out.sem noGs O w' v
theorem PCon.intro {B : World → Prop} {P : Program} {f : Nat} {fn : Func} {c : Code} {ins : List Ent} {out : Ent} (hf : P.funcs[f]? = some fn) (hb : fn.body = some c) {n : Nat} {Γ0 : Gam} (hn : fn.ntmps = n) (hl : Nat.ble ins.length n = true) (hΓ : enterΓ ins = Γ0)
    (h : ∀ w O, JC ⟨P, fn, n, w, O, fun _ => False, B, []⟩ Γ0 [] c (bodyPost P fn (RetP out w O))) : PCon B P f ins out := by
  subst hn hΓ
  intro w O args hO hglob hargs
  refine calls_of_wp hf hb (h w O _ _ ⟨noGs, fun _ => none, ?_⟩)
  have hlen := hargs.length
  have hle : ins.length ≤ fn.ntmps := by simpa [Nat.ble_eq] using hl
  exact {
    size := by simp; omega
    defers := rfl
    glob := hglob.later (Later.less_of fun b _ hb => by simpa [Ctx.S] using hb)
    fut := Fut.refl _ _
    olt := hO
    ownok := fun b i hb => nomatch hb
    keys := fun i hi => absurd rfl hi
    okeys := fun b i hb => nomatch hb
    obj := fun i e hi => nomatch hi
    ent := fun t e ht => by
      obtain ⟨_, h1⟩ := enter_lookup ins 0 t e ht
      obtain ⟨v, h2, h3⟩ := hargs.get h1
      have hlt : t < args.length := by
        rcases Nat.lt_or_ge t args.length with k | k
        · exact k
        · simp [List.getElem?_eq_none k] at h2
      have e1 : ((args.toArray ++ Array.replicate (fn.ntmps - args.toArray.size) undef).getD t undef) = v := by
        have hlt2 : t < (args.toArray ++ Array.replicate (fn.ntmps - args.toArray.size) undef).size := by simp; omega
        rw [Array.getD, dif_pos hlt2]
        simp only [Array.getInternal_eq_getElem]
        rw [Array.getElem_append_left (by simpa using hlt)]
        simpa [List.getElem?_eq_getElem hlt] using h2
      simp only [e1]
      refine e.mono (fun i x hi => hi) (Later.less_of fun b _ hb => ?_) h3
      simpa [Ctx.S] using hb }
theorem run_map {γ δ : Type} {P : Program} {w : World} {f : γ → δ} {m : Sem γ} : (f <$> m).run P w = match m.run P w with | .ok x w' => .ok (f x) w' | .halt h w' => .halt h w' := by
  have : f <$> m = m >>= fun x => pure (f x) := rfl
  rw [this, run_bind]
  cases m.run P w <;> rfl
section
variable {X : Ctx} {Γ : Gam} {Ω : Omg}
theorem JE.ret_of {B : World → Prop} {out : Ent} {w : World} {O : Nat → Prop} {P : Program} {fn : Func} {n : Nat}
    (h : ∀ a w' gs own, SatD ⟨P, fn, n, w, O, fun _ => False, B, []⟩ Γ Ω a w' gs own → ∃ v, (results fn a.tmps).run P w' = .ok v w' ∧ out.sem noGs O w' v) :
    JE ⟨P, fn, n, w, O, fun _ => False, B, []⟩ Γ Ω (bodyPost P fn (RetP out w O)) .ret := by
  rintro a w' ⟨gs, own, hs⟩
  obtain ⟨v, h1, h2⟩ := h a w' gs own hs
  exact ⟨hs.defers, v, h1, v, rfl, hs.fut, h2⟩
theorem sem_out {α : Type} {R : RT α} {d : α} {a : Act} {w : World} {gs : Nat → Option Value} {own : Nat → Option Nat} {t : Nat} (hs : SatD X Γ Ω a w gs own) (h : Γ.lookup t = some (D R d)) :
    (D R d).sem noGs X.O w (a.tmps.getD t undef) :=
  RT.val_stable (hs.ent t _ h) (Later.less_of fun b _ hb => .inl hb)
theorem JE.ret1 {B : World → Prop} {w : World} {O : Nat → Prop} {P : Program} {fn : Func} {n t : Nat} {α : Type} {R : RT α} {d : α} (hr : fn.results = #[.tmp t]) (ht : Γ.lookup t = some (D R d)) :
    JE ⟨P, fn, n, w, O, fun _ => False, B, []⟩ Γ Ω (bodyPost P fn (RetP (D R d) w O)) .ret :=
  JE.ret_of fun a w' gs own hs => ⟨a.tmps.getD t undef, by unfold results; rw [hr]; simp [run_bind, run_pure], sem_out hs ht⟩
theorem JE.ret2 {B : World → Prop} {w : World} {O : Nat → Prop} {P : Program} {fn : Func} {n t1 t2 : Nat} {α β : Type} {R1 : RT α} {R2 : RT β} {d1 : α} {d2 : β} (hr : fn.results = #[.tmp t1, .tmp t2]) (h1 : Γ.lookup t1 = some (D R1 d1)) (h2 : Γ.lookup t2 = some (D R2 d2)) :
    JE ⟨P, fn, n, w, O, fun _ => False, B, []⟩ Γ Ω (bodyPost P fn (RetP (TUP [D R1 d1, D R2 d2]) w O)) .ret :=
  JE.ret_of fun a w' gs own hs => ⟨.tuple #[a.tmps.getD t1 undef, a.tmps.getD t2 undef], by unfold results; rw [hr]; simp [run_bind, run_pure], [_, _], rfl, .cons (sem_out hs h1) (.cons (sem_out hs h2) .nil)⟩
theorem JE.ret3 {B : World → Prop} {w : World} {O : Nat → Prop} {P : Program} {fn : Func} {n t1 t2 t3 : Nat} {α β γ : Type} {R1 : RT α} {R2 : RT β} {R3 : RT γ} {d1 : α} {d2 : β} {d3 : γ} (hr : fn.results = #[.tmp t1, .tmp t2, .tmp t3]) (h1 : Γ.lookup t1 = some (D R1 d1)) (h2 : Γ.lookup t2 = some (D R2 d2)) (h3 : Γ.lookup t3 = some (D R3 d3)) :
    JE ⟨P, fn, n, w, O, fun _ => False, B, []⟩ Γ Ω (bodyPost P fn (RetP (TUP [D R1 d1, D R2 d2, D R3 d3]) w O)) .ret :=
  JE.ret_of fun a w' gs own hs => ⟨.tuple #[a.tmps.getD t1 undef, a.tmps.getD t2 undef, a.tmps.getD t3 undef], by unfold results; rw [hr]; simp [run_bind, run_pure], [_, _, _], rfl, .cons (sem_out hs h1) (.cons (sem_out hs h2) (.cons (sem_out hs h3) .nil))⟩
theorem JC.cond {c : Operand} {x y : Code} {b : Bool} {Q : Exit → Act → World → Prop} (ht : Opd Γ c (D RBool b)) (h1 : b = true → JC X Γ Ω x Q) (h2 : b = false → JC X Γ Ω y Q) : JC X Γ Ω (.cond c x y) Q := by
  rintro a w ⟨gs, own, hs⟩
  have hv := RBool.val_iff.1 (ht.get hs)
  exact wp_cond_split hv (fun hb => h1 hb a w ⟨gs, own, hs⟩) (fun hb => h2 hb a w ⟨gs, own, hs⟩)
/-- Ways that meet again. -/
theorem JC.join {c : Code} {Q : Exit → Act → World → Prop} (Γm : Gam) (Ωm : Omg) (hK : JE X Γm Ωm Q .normal)
    (h : ∀ K : Act → World → Prop, (∀ a w, Sat X Γm Ωm a w → K a w) → JC X Γ Ω c (Exit.then K Q)) : JC X Γ Ω c Q := by
  intro a w hs
  refine wp_mono (h (Q .normal) hK a w hs) ?_
  intro e a w hq
  cases e <;> exact hq
theorem JC.joinS {c : Code} {Q : Exit → Act → World → Prop} {St V : Type} (e : V ⊕ St) (Γm : St → Gam) (Ωm : St → Omg) (hK : ∀ s, e = .inr s → JE X (Γm s) (Ωm s) Q .normal)
    (h : ∀ K : Act → World → Prop, (∀ s, e = .inr s → ∀ a w, Sat X (Γm s) (Ωm s) a w → K a w) → JC X Γ Ω c (Exit.then K Q)) : JC X Γ Ω c Q := by
  intro a w hs
  refine wp_mono (h (Q .normal) (fun s he => hK s he) a w hs) ?_
  intro e a w hq
  cases e <;> exact hq
theorem JE.meet {Γm : Gam} {Ωm : Omg} {K : Act → World → Prop} {Q : Exit → Act → World → Prop} (hK : ∀ a w, Sat X Γm Ωm a w → K a w) (hΓ : CV (Ωm.map Prod.fst) Γ Γm) (hΩ : OVK (Ωm.map Prod.fst) Ω Ωm) : JE X Γ Ω (Exit.then K Q) .normal :=
  fun a w hs => hK a w (hs.conv hΓ hΩ)
theorem JC.meet {Γm : Gam} {Ωm : Omg} {K : Act → World → Prop} (hK : ∀ a w, Sat X Γm Ωm a w → K a w) (hΓ : CV (Ωm.map Prod.fst) Γ Γm) (hΩ : OVK (Ωm.map Prod.fst) Ω Ωm) : ∀ a w, Sat X Γ Ω a w → K a w :=
  fun a w hs => hK a w (hs.conv hΓ hΩ)
theorem of_guard {γ : Type _} {c : Prop} [Decidable c] {a : Option γ} {r : γ} (h : (if c then a else none) = some r) : c ∧ a = some r := by
  by_cases hc : c
  · rw [if_pos hc] at h; exact ⟨hc, h⟩
  · rw [if_neg hc] at h; cases h
theorem of_pos {γ : Sort _} {c : Prop} [Decidable c] {a b r : γ} (hc : c) (h : (if c then a else b) = r) : a = r := by rw [if_pos hc] at h; exact h
theorem of_neg {γ : Sort _} {p : Bool} {a b r : γ} (hc : p = false) (h : (if p = true then a else b) = r) : b = r := by subst hc; exact h
theorem of_bind {γ δ : Type _} {m : Option γ} {f : γ → Option δ} {r : δ} (h : m.bind f = some r) : ∃ x, m = some x ∧ f x = some r := Option.bind_eq_some_iff.1 h
/-- A result: a slot, or a variable that lies in memory. -/
def RvOK (P : Program) (Γ : Gam) (Ω : Omg) (r : ResultVar) (e : Ent) : Prop :=
  ∀ (X : Ctx) (a : Act) (w : World) gs own, X.P = P → SatD X Γ Ω a w gs own → ∃ v, (match r with | .tmp t => (pure (a.tmps.getD t undef) : Sem Value) | .cell t T => (do loadVar T (← asAddr (a.tmps.getD t undef)))).run P w = .ok v w ∧ e.sem noGs X.O w v
theorem RvOK.tmp {P : Program} {t : Nat} {α : Type} {R : RT α} {d : α} (h : Γ.lookup t = some (D R d)) : RvOK P Γ Ω (.tmp t) (D R d) :=
  fun X a w gs own hP hs => ⟨_, rfl, sem_out hs h⟩
theorem RvOK.cell {P : Program} {t i T T0 : Nat} {α : Type} {R : RT α} {d : α} (h : Γ.lookup t = some (BP i 0)) {φ : Value → Prop} (hi : Ω.lookup i = some (BoxAt φ R T0 d)) (hT : TyOK P T R) : RvOK P Γ Ω (.cell t T) (D R d) :=
  fun X a w gs own hP hs => by
    obtain ⟨b, h1, h2⟩ := hs.ent t _ h
    obtain ⟨v, hv, b', cs, e1, e0, e2, e3, e4⟩ := hs.obj i _ hi
    rw [h1] at hv
    simp only [Option.some.injEq] at hv
    subst hv
    simp only [Value.pointer.injEq, Option.some.injEq, Addr.mk.injEq] at e1
    obtain ⟨rfl, _⟩ := e1
    have hc := CellsAt.of_block e3
    refine ⟨_, ?_, RT.val_stable (RT.val_of e4) (Later.less_of fun b _ hb => .inl hb)⟩
    simp only [h2, run_bind, asAddr, run_pure, run_loadVar hT e4 hc]
theorem JE.retA {B : World → Prop} {w : World} {O : Nat → Prop} {P : Program} {fn : Func} {n : Nat} {r1 : ResultVar} {e1 : Ent} (hr : fn.results = #[r1]) (h1 : RvOK P Γ Ω r1 e1) :
    JE ⟨P, fn, n, w, O, fun _ => False, B, []⟩ Γ Ω (bodyPost P fn (RetP e1 w O)) .ret :=
  JE.ret_of fun a w' gs own hs => by
    obtain ⟨v, hv, he⟩ := h1 _ _ _ _ _ rfl hs
    refine ⟨v, ?_, he⟩
    unfold results; rw [hr]
    simp only [List.mapM_toArray, List.mapM_cons, List.mapM_nil, run_bind, run_map]
    cases r1 <;> simp_all [run_pure, run_bind]
theorem JE.retB {B : World → Prop} {w : World} {O : Nat → Prop} {P : Program} {fn : Func} {n : Nat} {r1 r2 : ResultVar} {e1 e2 : Ent} (hr : fn.results = #[r1, r2]) (h1 : RvOK P Γ Ω r1 e1) (h2 : RvOK P Γ Ω r2 e2) :
    JE ⟨P, fn, n, w, O, fun _ => False, B, []⟩ Γ Ω (bodyPost P fn (RetP (TUP [e1, e2]) w O)) .ret :=
  JE.ret_of fun a w' gs own hs => by
    obtain ⟨v1, hv1, he1⟩ := h1 _ _ _ _ _ rfl hs
    obtain ⟨v2, hv2, he2⟩ := h2 _ _ _ _ _ rfl hs
    refine ⟨.tuple #[v1, v2], ?_, [_, _], rfl, .cons he1 (.cons he2 .nil)⟩
    unfold results; rw [hr]
    simp only [List.mapM_toArray, List.mapM_cons, List.mapM_nil, run_bind, run_map]
    cases r1 <;> cases r2 <;> simp_all [run_pure, run_bind]
theorem JE.retC {B : World → Prop} {w : World} {O : Nat → Prop} {P : Program} {fn : Func} {n : Nat} {r1 r2 r3 : ResultVar} {e1 e2 e3 : Ent} (hr : fn.results = #[r1, r2, r3]) (h1 : RvOK P Γ Ω r1 e1) (h2 : RvOK P Γ Ω r2 e2) (h3 : RvOK P Γ Ω r3 e3) :
    JE ⟨P, fn, n, w, O, fun _ => False, B, []⟩ Γ Ω (bodyPost P fn (RetP (TUP [e1, e2, e3]) w O)) .ret :=
  JE.ret_of fun a w' gs own hs => by
    obtain ⟨v1, hv1, he1⟩ := h1 _ _ _ _ _ rfl hs
    obtain ⟨v2, hv2, he2⟩ := h2 _ _ _ _ _ rfl hs
    obtain ⟨v3, hv3, he3⟩ := h3 _ _ _ _ _ rfl hs
    refine ⟨.tuple #[v1, v2, v3], ?_, [_, _, _], rfl, .cons he1 (.cons he2 (.cons he3 .nil))⟩
    unfold results; rw [hr]
    simp only [List.mapM_toArray, List.mapM_cons, List.mapM_nil, run_bind, run_map]
    cases r1 <;> cases r2 <;> cases r3 <;> simp_all [run_pure, run_bind]
/-! the arguments of a call, seen by the callee; F: variables that stay while the call runs -/
def frz (X : Ctx) (own : Nat → Option Nat) (F : List Nat) : Nat → Prop := fun b => X.S own b ∧ ¬ (∃ i, F.contains i = true ∧ own b = some i)
def OpdF (Γ : Gam) (Ω : Omg) (F : List Nat) (x : Operand) (e : Ent) : Prop :=
  ∀ (X : Ctx) (a : Act) (w : World) gs own, SatD X Γ Ω a w gs own → e.sem noGs (frz X own F) w (a.eval x)
theorem frz_later {X : Ctx} {own : Nat → Option Nat} {F : List Nat} {w : World} : Later (X.S own) w (frz X own F) w := Later.less_of fun b _ hb => hb.1
theorem OpdF.of {F : List Nat} {x : Operand} {α : Type} {R : RT α} {d : α} (h : Opd Γ x (D R d)) : OpdF Γ Ω F x (D R d) :=
  fun X a w gs own hs => RT.val_stable (h.sat hs) frz_later
theorem bp_frz {F : List Nat} {i o T : Nat} {α β : Type} {R : RT α} {Rf : RT β} {u : α} {get : α → β} {v : Value} {a : Act} {w : World} {gs : Nat → Option Value} {own : Nat → Option Nat} (hs : SatD X Γ Ω a w gs own)
    (hv : (BP i o).sem gs (X.S own) w v) {φ : Value → Prop} (hi : Ω.lookup i = some (BoxAt φ R T u)) (hf : FieldOf R o Rf get) (hF : F.contains i = true) : (RPtr Rf).val (frz X own F) w v (get u) := by
  obtain ⟨b, h1, h2⟩ := hv
  obtain ⟨v', hv', b', cs, e1, e0, e2, e3, e4⟩ := hs.obj i _ hi
  rw [h1] at hv'
  simp only [Option.some.injEq] at hv'
  subst hv'
  simp only [Value.pointer.injEq, Option.some.injEq, Addr.mk.injEq] at e1
  obtain ⟨rfl, _⟩ := e1
  have hc := (CellsAt.of_block e3).part o Rf.size
  rw [Nat.zero_add] at hc
  exact RPtr.val_iff.2 ⟨b, o, _, h2, Rf.stable (hf.get e4) frz_later, ⟨(hs.ownok b i e2).1, fun k => k.2 ⟨i, hF, e2⟩⟩, hc⟩
theorem OpdF.bp {F : List Nat} {x : Operand} {i o T : Nat} {α β : Type} {R : RT α} {Rf : RT β} {u : α} {get : α → β} (h : Opd Γ x (BP i o)) {φ : Value → Prop} (hi : Ω.lookup i = some (BoxAt φ R T u)) (hf : FieldOf R o Rf get) (hF : F.contains i = true) : OpdF Γ Ω F x (D (RPtr Rf) (get u)) :=
  fun X a w gs own hs => bp_frz hs (h.sat hs) hi hf hF
/-- What a function value has captured, seen by the callee. -/
inductive FzE (Ω : Omg) (F : List Nat) : List Ent → List Ent → Prop
  | nil : FzE Ω F [] []
  | dat {α : Type} {R : RT α} {d : α} {es es' : List Ent} : FzE Ω F es es' → FzE Ω F (D R d :: es) (D R d :: es')
  | bp {i o T : Nat} {α β : Type} {R : RT α} {Rf : RT β} {u : α} {get : α → β} {es es' : List Ent} {φ : Value → Prop} : Ω.lookup i = some (BoxAt φ R T u) → FieldOf R o Rf get → F.contains i = true → FzE Ω F es es' → FzE Ω F (BP i o :: es) (D (RPtr Rf) (get u) :: es')
theorem FzE.sems {F : List Nat} {a : Act} {w : World} {gs : Nat → Option Value} {own : Nat → Option Nat} (hs : SatD X Γ Ω a w gs own) : ∀ {es es' : List Ent} {vs : List Value}, FzE Ω F es es' → Sems gs (X.S own) w es vs → Sems noGs (frz X own F) w es' vs
  | _, _, _, .nil, .nil => .nil
  | _, _, _, .dat t, .cons h t' => .cons (RT.val_stable h frz_later) (t.sems hs t')
  | _, _, _, .bp hi hf hF t, .cons h t' => .cons (bp_frz hs h hi hf hF) (t.sems hs t')
theorem OpdF.fv {F : List Nat} {x : Operand} {g : Nat} {es es' : List Ent} (h : Opd Γ x (FV g es)) (hz : FzE Ω F es es') : OpdF Γ Ω F x (FV g es') :=
  fun X a w gs own hs => let ⟨vs, h1, h2⟩ := h.sat hs; ⟨vs, h1, hz.sems hs h2⟩
inductive OpdsF (Γ : Gam) (Ω : Omg) (F : List Nat) : List Operand → List Ent → Prop
  | nil : OpdsF Γ Ω F [] []
  | cons {x xs e es} : OpdF Γ Ω F x e → OpdsF Γ Ω F xs es → OpdsF Γ Ω F (x :: xs) (e :: es)
theorem OpdsF.sems {F : List Nat} {a : Act} {w : World} {gs : Nat → Option Value} {own : Nat → Option Nat} (hs : SatD X Γ Ω a w gs own) : ∀ {xs es}, OpdsF Γ Ω F xs es → Sems noGs (frz X own F) w es (xs.map a.eval)
  | _, _, .nil => .nil
  | _, _, .cons h t => .cons (h X a w gs own hs) (t.sems hs)
/-- What does not lean on memory. -/
def WI (e : Ent) : Prop := ∀ gs S w S' w' v, e.sem gs S w v → e.sem gs S' w' v
theorem WI.int {k : IntKind} {n : Int} : WI (D (RInt k) n) := fun _ _ _ _ _ _ h => RInt.val_iff.2 (RInt.val_iff.1 h)
theorem WI.bool {b : Bool} : WI (D RBool b) := fun _ _ _ _ _ _ h => RBool.val_iff.2 (RBool.val_iff.1 h)
theorem WI.str {s : Str} : WI (D RStr s) := fun _ _ _ _ _ _ h => RStr.val_iff.2 (RStr.val_iff.1 h)
inductive WIs : List Ent → Prop
  | nil : WIs []
  | cons {e es} : WI e → WIs es → WIs (e :: es)
theorem WIs.sems {gs S w S' w'} : ∀ {es vs}, WIs es → Sems gs S w es vs → Sems gs S' w' es vs
  | _, _, .nil, .nil => .nil
  | _, _, .cons h t, .cons h' t' => .cons (h _ _ _ _ _ _ h') (t.sems t')
theorem WI.tup {es : List Ent} (h : WIs es) : WI (TUP es) := fun _ _ _ _ _ _ ⟨vs, h1, h2⟩ => ⟨vs, h1, h.sems h2⟩
theorem run_call_func {P : Program} {w : World} {a : Act} {f : Nat} {x : Operand} {xs : List Operand} {tys : Array Nat} {dst : Option Nat} {ty : Nat} {pos : String} {af : Array Edge} {g : Option (Nat × Bool)} {vs : List Value}
    (hx : a.eval x = .func (.func f) #[] vs.toArray) (he : Enters P f) :
    (execOp a.eval ⟨dst, .call ⟨.value x, xs.toArray, tys⟩, ty, pos, af, g⟩).run P w = .ok (.enter f (xs.map a.eval ++ vs).toArray) w := by
  simp only [execOp, resolve, run_bind, hx, Deferred.ofValue, run_pure, List.map_toArray]
  have : ∀ args : Array Value, invoke (.fn (.func f) vs.toArray) args = callFunc f (args ++ vs.toArray) := fun _ => rfl
  rw [this, he]
  simp
theorem upon_call {P : Program} {o : Oper} {a : Act} {w : World} {Q : Exit → Act → World → Prop} {K : Act → World → Prop} {f : Nat} {args : List Value} {out : Ent} {O : Nat → Prop} {d : Nat}
    (ho : o.dst = some d) (hrun : (execOp a.eval o).run P w = .ok (.enter f args.toArray) w) (hc : Calls P f args.toArray w (RetP out w O))
    (k : ∀ v w', Fut (fun _ => False) w w' → out.sem noGs O w' v → K (a.put (some d) v) w') : o.wp P a w K Q := by
  unfold Oper.wp
  rw [hrun, Oper.upon_enter]
  refine hc.mono ?_
  rintro e w' ⟨v, rfl, hf, hv⟩
  simp only [ho]
  exact k v w' hf hv
/-- A call by contract. -/
theorem qe {f : Nat} {x : Operand} {xs : List Operand} {tys : Array Nat} {d ty : Nat} {pos : String} {af : Array Edge} {g : Option (Nat × Bool)} {es : List Ent} {out : Ent} (hx : Opd Γ x (FV f [])) (hc : PCon X.B X.P f es out) (he : Enters X.P f) (hargs : OpdsF Γ Ω [] xs es) (hd : Nat.blt d X.n = true := by rfl) :
    ST X Γ Ω ⟨some d, .call ⟨.value x, xs.toArray, tys⟩, ty, pos, af, g⟩ ((d, out) :: Γ) Ω := by
  rintro a w Q ⟨gs, own, hs⟩
  obtain ⟨vs, h1, h2⟩ := hx.sat hs
  cases h2
  have hO : ∀ b, frz X own [] b → b < w.heap.size := fun b hb => by
    rcases hb.1 with hb | hb
    · exact Nat.lt_of_lt_of_le (hs.olt b hb) hs.fut.size
    · cases ho : own b with
      | none => rw [ho] at hb; cases hb
      | some i => exact (hs.ownok b i ho).1
  refine upon_call (d := d) rfl (run_call_func (vs := []) h1 he) (hc w (frz X own []) _ hO (hs.glob.later frz_later) ?_) ?_
  · simpa using hargs.sems hs
  · intro v w' hf hv
    refine ⟨gs, own, hs.put (lt_of_blt hd) hf (out.mono (gs' := gs) (fun i x hi => by simp [noGs] at hi) (Later.less_of fun b _ hb => ⟨hb, fun ⟨i, hi, _⟩ => by simp at hi⟩) hv)⟩
/-- A call by contract, of a function value or with variables that stay while it runs; what comes back does not lean on memory. -/
theorem qL {F : List Nat} {f : Nat} {x : Operand} {xs : List Operand} {tys : Array Nat} {d ty : Nat} {pos : String} {af : Array Edge} {g : Option (Nat × Bool)} {es cs cs' : List Ent} {out : Ent} (hx : Opd Γ x (FV f cs)) (hc : PCon X.B X.P f (es ++ cs') out) (he : Enters X.P f) (hargs : OpdsF Γ Ω F xs es) (hz : FzE Ω F cs cs') (hw : WI out) (hd : Nat.blt d X.n = true := by rfl) :
    ST X Γ Ω ⟨some d, .call ⟨.value x, xs.toArray, tys⟩, ty, pos, af, g⟩ ((d, out) :: Γ) Ω := by
  rintro a w Q ⟨gs, own, hs⟩
  obtain ⟨vs, h1, h2⟩ := hx.sat hs
  have hO : ∀ b, frz X own F b → b < w.heap.size := fun b hb => by
    rcases hb.1 with hb | hb
    · exact Nat.lt_of_lt_of_le (hs.olt b hb) hs.fut.size
    · cases ho : own b with
      | none => rw [ho] at hb; cases hb
      | some i => exact (hs.ownok b i ho).1
  have happ : ∀ {es1 es2 : List Ent} {vs1 vs2 : List Value}, Sems noGs (frz X own F) w es1 vs1 → Sems noGs (frz X own F) w es2 vs2 → Sems noGs (frz X own F) w (es1 ++ es2) (vs1 ++ vs2) := by
    intro es1 es2 vs1 vs2 h k
    induction h with
    | nil => exact k
    | cons h _ ih => exact .cons h ih
  refine upon_call (d := d) rfl (run_call_func h1 he) (hc w (frz X own F) _ hO (hs.glob.later frz_later) (happ (hargs.sems hs) (hz.sems hs h2))) ?_
  intro v w' hf hv
  refine ⟨gs, own, hs.put (lt_of_blt hd) hf (hw _ _ _ _ _ _ (out.mono (gs' := gs) (fun i x hi => by simp [noGs] at hi) (Later.refl _ _) hv))⟩
theorem qR {f : Nat} {xs : List Operand} {es : List Ent} {d ty : Nat} {pos : String} {af : Array Edge} {g : Option (Nat × Bool)} (h : ∀ X Ω a w gs own, SatD X Γ Ω a w gs own → Sems gs (X.S own) w es (xs.map a.eval)) (hd : Nat.blt d X.n = true := by rfl) :
    ST X Γ Ω ⟨some d, .makeFunc (.func f) #[] xs.toArray, ty, pos, af, g⟩ ((d, FV f es) :: Γ) Ω :=
  ST.val0 rfl hd fun a w gs own hs => ⟨.func (.func f) #[] (xs.map a.eval).toArray, by
    simp only [execOp, Instr.makeFunc, run_value, run_pure, List.map_toArray]; rfl, _, rfl, h X Ω a w gs own hs⟩
theorem Caps.nil {xs : List Operand} : ∀ X Ω a w gs own, SatD X Γ Ω a w gs own → Sems gs (X.S own) w [] (([] : List Operand).map a.eval) := fun _ _ _ _ _ _ _ => .nil
theorem Caps.cons {x : Operand} {xs : List Operand} {e : Ent} {es : List Ent} (hx : Opd Γ x e) (h : ∀ X Ω a w gs own, SatD X Γ Ω a w gs own → Sems gs (X.S own) w es (xs.map a.eval)) :
    ∀ X Ω a w gs own, SatD X Γ Ω a w gs own → Sems gs (X.S own) w (e :: es) ((x :: xs).map a.eval) := fun X Ω a w gs own hs => .cons (hx.sat hs) (h X Ω a w gs own hs)
end
end Go.Trw
