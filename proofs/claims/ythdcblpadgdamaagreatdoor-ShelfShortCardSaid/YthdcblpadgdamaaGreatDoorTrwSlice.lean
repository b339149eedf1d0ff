/- Own work: slices of the call's own: made, appended to, read, written, let go; states under other names. -/
import Derived.Test.YthdcblpadgdamaaGreatDoorTrwState
import Derived.Laws.AppendOwn
import Derived.Laws.OwnMore
set_option linter.all false
namespace Go.Trw
open Go
/-! ### 1. States: an object turns to another one -/
def deadOf : Option Nat → Omg
  | some i => [(i, OEnt.dead)]
  | none => []
theorem deadOf_lookup {src : Option Nat} {k : Nat} : (deadOf src).lookup k = if src = some k then some OEnt.dead else none := by
  cases src with
  | none => simp [deadOf]
  | some i =>
    by_cases h : k = i
    · subst h; simp [deadOf]
    · have : ¬ i = k := fun e => h e.symm
      simp [deadOf, lookup_cons, h, this]
/-- An object turns; it gets another name; the new blocks are its. 'from': the name that it had. -/
theorem SatD.turn {X : Ctx} {Γ : Gam} {Ω : Omg} {a : Act} {w w' : World} {gs : Nat → Option Value} {own : Nat → Option Nat} (h : SatD X Γ Ω a w gs own)
    {j : Nat} (src : Option Nat) {v' : Value} {e : OEnt} (hj : Ω.lookup j = none) (hsrc : ∀ i, src = some i → Ω.lookup i ≠ none) (hf : Fut (fun b => own b ≠ none ∧ own b = src) w w')
    (he : ∀ own' : Nat → Option Nat, ∀ gs' : Nat → Option Value, (∀ b, b < w.heap.size → own b ≠ none → own b = src → own' b = some j) → (∀ b, w.heap.size ≤ b → b < w'.heap.size → own' b = some j) → Later (X.S own) w (X.S own') w' → (∀ k x, gs k = some x → gs' k = some x) → e.holds gs' v' (fun b => own' b = some j) (X.S own') w') :
    ∃ gs' own', SatD X Γ ((j, e) :: deadOf src ++ Ω) a w' gs' own' ∧ gs' j = some v' ∧ (∀ k x, gs k = some x → gs' k = some x) := by
  have hgj : gs j = none := by
    cases hg : gs j with
    | none => rfl
    | some x => exact absurd hj (h.keys j (by simp [hg]))
  have hoj : ∀ b, own b ≠ some j := fun b hb => h.okeys b j hb hj
  have hoo : ∀ b, w.heap.size ≤ b → own b = none := by
    intro b hb
    cases ho : own b with
    | none => rfl
    | some k => have := (h.ownok b k ho).1; omega
  obtain ⟨own', hown⟩ : ∃ own' : Nat → Option Nat, ∀ b k, own' b = some k ↔ (k = j ∧ ((own b ≠ none ∧ own b = src) ∨ (w.heap.size ≤ b ∧ b < w'.heap.size))) ∨ (own b = some k ∧ own b ≠ src) := by
    refine ⟨fun b => if (own b ≠ none ∧ own b = src) ∨ (w.heap.size ≤ b ∧ b < w'.heap.size) then some j else own b, fun b k => ?_⟩
    show (if _ then some j else own b) = some k ↔ _
    split
    · rename_i hc
      simp only [Option.some.injEq]
      constructor
      · intro e; exact .inl ⟨e.symm, hc⟩
      · rintro (⟨e, _⟩ | ⟨h1, h2⟩)
        · exact e.symm
        · rcases hc with hc | hc
          · exact absurd hc.2 h2
          · rw [hoo b hc.1] at h1; cases h1
    · rename_i hc
      constructor
      · intro e; exact .inr ⟨e, fun k2 => hc (.inl ⟨by rw [e]; simp, k2⟩)⟩
      · rintro (⟨_, h1⟩ | ⟨h1, _⟩)
        · exact absurd h1 hc
        · exact h1
  have hless : ∀ b, b < w.heap.size → X.S own' b → X.S own b := by
    intro b hb hS
    rcases hS with hS | hS
    · exact .inl hS
    · cases ho : own' b with
      | none => rw [ho] at hS; cases hS
      | some k =>
        rcases (hown b k).1 ho with ⟨_, h1 | h1⟩ | ⟨h1, _⟩
        · right
          cases hob : own b with
          | none => exact absurd hob h1.1
          | some _ => rfl
        · omega
        · right; rw [h1]; rfl
  have hL : Later (X.S own) w (X.S own') w' := hf.later (fun b _ k => by
    right
    cases hob : own b with
    | none => exact absurd hob k.1
    | some _ => rfl) hless
  have hg : ∀ k x, gs k = some x → (fun k => if k = j then some v' else gs k) k = some x := by
    intro k x hx
    by_cases hkj : k = j
    · subst hkj; simp [hgj] at hx
    · simp [hkj, hx]
  refine ⟨fun k => if k = j then some v' else gs k, own', ?_, by simp, hg⟩
  have hne : ∀ k, Ω.lookup k ≠ none → k ≠ j := fun k hk e => hk (e ▸ hj)
  have hlk : ∀ k, Ω.lookup k ≠ none → ((j, e) :: deadOf src ++ Ω).lookup k ≠ none := by
    intro k hk
    rw [List.cons_append, lookup_cons, if_neg (hne k hk), lookup_append_some]
    split
    · simp
    · exact hk
  exact {
    size := h.size
    defers := h.defers
    glob := h.glob.later hL
    fut := h.fut.trans hf (fun _ _ k => k) (fun b hb k => by
      cases hob : own b with
      | none => exact absurd hob k.1
      | some i =>
        rcases (h.ownok b i hob).2.2 with h3 | h3
        · exact h3
        · omega)
    olt := h.olt
    ownok := fun b k hb => by
      have hw0 := h.fut.size
      rcases (hown b k).1 hb with ⟨_, h1 | h1⟩ | ⟨h1, _⟩
      · cases hob : own b with
        | none => exact absurd hob h1.1
        | some i =>
          obtain ⟨k1, k2, k3⟩ := h.ownok b i hob
          exact ⟨Nat.lt_of_lt_of_le k1 hf.size, k2, k3⟩
      · exact ⟨h1.2, fun k => by have := h.olt _ k; omega, .inr (by omega)⟩
      · obtain ⟨k1, k2, k3⟩ := h.ownok b k h1
        exact ⟨Nat.lt_of_lt_of_le k1 hf.size, k2, k3⟩
    keys := fun k hk => by
      by_cases hkj : k = j
      · subst hkj; simp [lookup_cons]
      · simp only [hkj, if_false] at hk
        exact hlk k (h.keys k hk)
    okeys := fun b k hb => by
      rcases (hown b k).1 hb with ⟨rfl, _⟩ | ⟨h1, _⟩
      · simp [lookup_cons]
      · exact hlk k (h.okeys b k h1)
    obj := fun k e' hk => by
      rw [List.cons_append, lookup_cons] at hk
      by_cases hkj : k = j
      · subst hkj
        simp only [if_true, Option.some.injEq] at hk
        subst hk
        refine ⟨v', by simp, he own' _ (fun b _ h1 h2 => (hown b k).2 (.inl ⟨rfl, .inl ⟨h1, h2⟩⟩)) (fun b h1 h2 => (hown b k).2 (.inl ⟨rfl, .inr ⟨h1, h2⟩⟩)) hL hg⟩
      · simp only [hkj, if_false] at hk
        rw [lookup_append_some] at hk
        rw [deadOf_lookup] at hk
        by_cases hs : src = some k
        · rw [if_pos hs] at hk
          simp only [Option.some.injEq] at hk
          subst hk
          cases hl : Ω.lookup k with
          | none => exact absurd hl (hsrc k hs)
          | some e0 =>
            obtain ⟨x, hx, _⟩ := h.obj k e0 hl
            exact ⟨x, by simp [hkj, hx], trivial⟩
        · rw [if_neg hs] at hk
          have hk2 : Ω.lookup k = some e' := hk
          obtain ⟨x, hx, hh⟩ := h.obj k e' hk2
          have hB : (fun b => own' b = some k) = (fun b => own b = some k) := by
            funext b
            rw [eq_iff_iff, hown b k]
            constructor
            · rintro (⟨e, _⟩ | ⟨h1, _⟩)
              · exact absurd e hkj
              · exact h1
            · intro h1; exact .inr ⟨h1, fun e => hs (by rw [← e, h1])⟩
          refine ⟨x, by simp [hkj, hx], ?_⟩
          rw [hB]
          refine e'.stable hg hh (fun b hb => hf.block b (h.ownok b k hb).1 (fun k2 => hs ?_)) hL
          rw [← k2.2, hb]
    ent := fun t e' ht => e'.mono hg hL (h.ent t e' ht) }
/-! ### 2. Slices of the call's own -/
theorem RowC.flat {α : Type} {R : RT α} {S : Nat → Prop} {w : World} : ∀ {l : List α} {cs : List Value}, cs.length = l.length * R.size → RowC R S w cs l → ∀ v ∈ cs, cellv v = true
  | [], cs, h, _, v, hv => by
    have : cs = [] := List.eq_nil_of_length_eq_zero (by simpa using h)
    subst this; cases hv
  | x :: l, cs, h, hR, v, hv => by
    have h0 := hR 0 (by simp)
    simp only [Nat.zero_mul, List.drop_zero] at h0
    rw [← List.take_append_drop R.size cs] at hv
    rcases List.mem_append.1 hv with k | k
    · exact R.flat h0 v k
    · refine RowC.flat (R := R) (S := S) (w := w) (l := l) (cs := cs.drop R.size) ?_ (fun i hi => ?_) v k
      · simp only [List.length_cons, Nat.add_mul, Nat.one_mul] at h; simp; omega
      · have := hR (i + 1) (by simp; omega)
        rw [List.drop_drop]
        simpa [Nat.add_mul, Nat.add_comm] using this
/-- A slice of the call's own. -/
def OwnSl {α : Type} (R : RT α) (E : TypeId) (l : List α) : OEnt where
  holds _ v B S w := ∃ xs, w.ownsRow 0 E R.size v l.length xs ∧ (∀ k, v.ownBlock = some k → B k) ∧ RowC R S w xs l
  stable := fun {_ _ v B S S' w w'} _ ⟨xs, h1, h2, h3⟩ hb hl => ⟨xs, by
    refine ⟨h1.1, h1.2.imp id ?_⟩
    rintro ⟨g, cap, cur, rfl, k1, k2, k3⟩
    exact ⟨g, cap, cur, rfl, k1, (hb g (h2 g rfl)).trans k2, k3⟩, h2, h3.later hl⟩
section
variable {X : Ctx} {Γ : Gam} {Ω : Omg} {α β : Type} {R : RT α} {Rf : RT β} {x y z : Operand} {d i j off t t2 ty T E : Nat} {u : α} {l m : List α} {pos : String} {af : Array Edge} {g : Option (Nat × Bool)}
theorem cellv_one {v : Value} (h : cellv v = true) : v.oneCell' = true := by cases v <;> simp_all [cellv, Value.oneCell']
theorem own_lt {a : Act} {w : World} {gs : Nat → Option Value} {own : Nat → Option Nat} (hs : SatD X Γ Ω a w gs own) {b k : Nat} (h : own b = some k) : b < w.heap.size := (hs.ownok b k h).1
theorem fut_grown {w w' : World} {v : Value} {B : Nat → Prop} (h : w.grownBy w' v.ownBlock) (hB : ∀ k, v.ownBlock = some k → B k) : Fut B w w' :=
  ⟨h.os, h.tape, h.output, h.size, fun b hb hn => h.block b hb fun e => hn (hB b e.symm)⟩
theorem cells_addr {w : World} {b o : Nat} {cs : List Value} (h : CellsAt w b o cs) : ∀ j u, cs[j]? = some u → w.cell? ((⟨b, o, none⟩ : Addr).add j) = some u := by
  intro j u hu
  rw [addr_add]
  have hlt : j < cs.length := by
    rcases Nat.lt_or_ge j cs.length with k | k
    · exact k
    · rw [List.getElem?_eq_none k] at hu; cases hu
  rw [List.getElem?_eq_getElem hlt] at hu
  simp only [Option.some.injEq] at hu
  rw [← hu]; exact h j hlt
theorem run_append_0 {P : Program} {w : World} {t e ty : TypeId} {inf : TypeInfo} {size : Nat} (ht : P.underlying t = some (.slice e)) (hi : P.info? e = some inf) {v : Value} {n : Nat} {xs : List Value} (hown : w.ownsRow 0 e size v n xs) (ao : Option Addr) (c : Nat) :
    (Builtin.append_ #[t, t] ty #[v, .slice ao 0 c]).run P w = .ok v w := by
  rcases hown.2 with ⟨rfl, rfl⟩ | ⟨g, cap, cur, rfl, _, _, hnc, _⟩
  · cases ao <;> simp [Builtin.append_, Go.run_underlying ht, Go.sizeOf, typeInfo, hi, Builtin.lenOf, Builtin.firstCells, loadCells, loadCellsFrom]
  · cases ao <;> simp [Builtin.append_, Go.run_underlying ht, Go.sizeOf, typeInfo, hi, Builtin.lenOf, Builtin.firstCells, hnc, storeCells, loadCells, loadCellsFrom]
/-- What an append to a slice of the call's own does. -/
theorem run_append_1 {P : Program} {w : World} {t e ty : TypeId} {inf : TypeInfo} {z : Value} {size : Nat} (ht : P.underlying t = some (.slice e)) (hi : P.info? e = some inf) (hz : inf.zero = some z) (hsize : inf.size = size) (hzs : z.cells.size = size) (hsz : 0 < size)
    {v : Value} {n : Nat} {xs : List Value} (hown : w.ownsRow 0 e size v n xs) {b off m c : Nat} {news : List Value} (hm : 0 < m) (hl : news.length = m * size) (hc : CellsAt w b off news) (h1 : ∀ u ∈ news, cellv u = true)
    (hb : n + m ≤ 16777216) (hby : inf.bytes ≤ 8388608) :
    ∃ v' w', (Builtin.append_ #[t, t] ty #[v, .slice (some ⟨b, off, none⟩) m c]).run P w = .ok v' w' ∧ w'.ownsRow 0 e size v' (n + m) (xs ++ news) ∧ w.grownBy w' v.ownBlock ∧ (∀ k, v'.ownBlock = some k → v.ownBlock = some k ∨ w.heap.size ≤ k) := by
  subst hsize
  have hlen : (xs ++ news).length = (n + m) * inf.size := by rw [List.length_append, hown.1, hl, Nat.add_mul]
  have hbytes : (n + m) * inf.bytes ≤ 140737488355328 := Nat.le_trans (Nat.mul_le_mul hb hby) (by decide)
  have hnew := cells_addr hc
  have hmx : n + m ≤ maxLen := Nat.le_trans hb (by decide)
  have fresh : ∀ (w' : World) (cap : Nat) (cur : Array Value), w' = w.drew.alloc (.cells cur e) → n + m ≤ cap → cap ≤ maxLen → cur.size = cap * inf.size → cur.toList.take ((n + m) * inf.size) = xs ++ news →
      w'.ownsRow 0 e inf.size (.slice (some ⟨w.heap.size, 0, none⟩) (n + m) cap) (n + m) (xs ++ news) ∧ w.grownBy w' v.ownBlock := by
    rintro w' cap cur rfl q1 q2 q3 q4
    exact ⟨⟨hlen, .inr ⟨w.heap.size, cap, cur, rfl, Nat.zero_le _, heap_alloc_new w.drew _, q1, q2, q3, q4⟩⟩, ⟨rfl, rfl, rfl, by simp, fun k hk _ => heap_alloc_old w.drew _ k hk⟩⟩
  have capOK : ∀ old, n + m ≤ grownCap w (n + m) old e ∧ grownCap w (n + m) old e ≤ maxLen := fun old => ⟨grownCap_ge _ _ _ _, grownCap_le_maxLen _ _ _ _ hmx⟩
  rcases hown.2 with ⟨rfl, rfl⟩ | ⟨g, cap, cur, rfl, _, hg, hnc, hcm, hcs, htake⟩
  · have hx : xs = [] := List.eq_nil_of_length_eq_zero (by simpa using hown.1)
    subst hx
    simp only [Nat.zero_add, List.nil_append] at *
    have hr := run_append_nil (P := P) w t ty e inf z ht hi hz ⟨b, off, none⟩ m c news hl hnew hm (by omega) (by omega)
    obtain ⟨c1, c2⟩ := capOK 0
    obtain ⟨q1, q2⟩ := fresh _ (grownCap w m 0 e) (news.toArray ++ Builtin.zeroCells z.cells (grownCap w m 0 e - m)) rfl c1 c2 (by
      simp only [Array.size_append, List.size_toArray, size_zeroCells, hzs, hl, ← Nat.add_mul]
      congr 1; omega) (by
      simp only [Array.toList_append]
      rw [← hl]; exact List.take_left)
    exact ⟨_, _, hr, q1, q2, fun k hk => .inr (by simp [Value.ownBlock] at hk; omega)⟩
  · by_cases hroom : n + m ≤ cap
    · have hfit : n * inf.size + news.length ≤ cur.size := by rw [hl, hcs, ← Nat.add_mul]; exact Nat.mul_le_mul_right _ hroom
      have hr := run_append_room (P := P) w t ty e inf ht hi g n cap cur hg ⟨b, off, none⟩ m c news hl hnew (fun u hu => cellv_one (h1 u hu)) hroom hfit
      refine ⟨_, _, hr, ⟨hlen, .inr ⟨g, cap, _, rfl, Nat.zero_le _, setRow_heap w g cur _ e _ hg, hroom, hcm, ?_, ?_⟩⟩, ⟨rfl, rfl, rfl, by simp, fun k hk hne => setRow_other w g k _ (fun e => hne (by simp [Value.ownBlock, e]))⟩, fun k hk => .inl hk⟩
      · simp only [List.size_toArray, List.length_append, List.length_take, List.length_drop, Array.length_toList]
        omega
      · rw [htake, ← hlen]
        exact List.take_left
    · have holds : ∀ j u, xs[j]? = some u → w.cell? ((⟨g, 0, none⟩ : Addr).add j) = some u := hown.cells (g := g) rfl
      have hr := run_append_grow (P := P) w t ty e inf z ht hi hz ⟨g, 0, none⟩ n cap xs hown.1 holds ⟨b, off, none⟩ m c news hl hnew (by omega) (by simp only [maxLen] at hmx; omega) (growslice_fits (by omega) hbytes)
      obtain ⟨c1, c2⟩ := capOK cap
      obtain ⟨q1, q2⟩ := fresh _ (grownCap w (n + m) cap e) (xs.toArray ++ news.toArray ++ Builtin.zeroCells z.cells (grownCap w (n + m) cap e - (n + m))) rfl c1 c2 (by
        simp only [Array.size_append, List.size_toArray, size_zeroCells, hzs, hown.1, hl, ← Nat.add_mul]
        congr 1; omega) (by
        simp only [Array.toList_append]
        rw [← hlen]; exact List.take_left)
      exact ⟨_, _, hr, q1, q2, fun k hk => .inr (by simp [Value.ownBlock] at hk; omega)⟩
/-- A nil slice becomes one of the call's own. -/
theorem qK {o : Op} (ho : o = .move (.const (.slice none 0 0)) ∨ o = .assign (.const (.slice none 0 0))) (hd : Nat.blt d X.n = true := by rfl) (hj : Ω.lookup j = none := by first | rfl | exact AFC.get rfl) :
    ST X Γ Ω ⟨some d, o, ty, pos, af, g⟩ ((d, OS j) :: Γ) ((j, OwnSl R E []) :: Ω) := by
  rintro a w Q ⟨gs, own, hs⟩
  have hrun : (execOp a.eval ⟨some d, o, ty, pos, af, g⟩).run X.P w = .ok (.value (.slice none 0 0)) w := by
    rcases ho with rfl | rfl <;> (simp only [execOp, Act.eval]; rfl)
  unfold Oper.wp
  rw [hrun, Oper.upon_value]
  obtain ⟨gs', own', h1, h2, h3⟩ := hs.turn (j := j) (v' := .slice none 0 0) (e := OwnSl R E []) (w' := w) none hj (fun i h => nomatch h) (Fut.refl _ _) (fun own' _ _ _ _ _ => ⟨[], World.ownsRow_nil _ _ _ _, fun k hk => (by simp [Value.ownBlock] at hk), fun i hi => absurd hi (Nat.not_lt_zero i)⟩)
  exact ⟨gs', own', h1.put (lt_of_blt hd) (Fut.refl _ _) h2⟩
theorem op_append (hx : Opd Γ x (OS i)) (hi : Ω.lookup i = some (OwnSl R E l)) (hy : Opd Γ y (D (RSlice R) m)) (hu : X.P.underlying T = some (.slice E)) {inf : TypeInfo} (hinf : X.P.info? E = some inf) {z : Value} (hz : inf.zero = some z)
    (hzs : (inf.size == R.size && z.cells.size == R.size && Nat.blt 0 R.size && Nat.ble inf.bytes 8388608) = true) (hb : l.length + m.length ≤ 16777216) (hd : Nat.blt d X.n = true) (hj : Ω.lookup j = none) :
    ST X Γ Ω ⟨some d, .call ⟨.builtin .append, #[x, y], #[T, T]⟩, ty, pos, af, g⟩ ((d, OS j) :: Γ) ((j, OwnSl R E (l ++ m)) :: (i, OEnt.dead) :: Ω) := by
  rintro a w Q ⟨gs, own, hs⟩
  simp only [Bool.and_eq_true, beq_iff_eq, Nat.blt_eq, Nat.ble_eq] at hzs
  obtain ⟨⟨⟨hz1, hz2⟩, hz3⟩, hz4⟩ := hzs
  have hv : gs i = some (a.eval x) := hx.sat hs
  obtain ⟨v, hv', xs, hrow, hB, hR⟩ := hs.obj i _ hi
  rw [hv] at hv'
  simp only [Option.some.injEq] at hv'
  subst hv'
  obtain ⟨ao, n, c, hy1, hy2, hy3, hy4, hy5⟩ := RSlice.val_iff.1 (hy.get hs)
  have hbytes : (l.length + m.length) * inf.bytes ≤ 140737488355328 := Nat.le_trans (Nat.mul_le_mul hb hz4) (by decide)
  have key : ∃ v' w' news, (Builtin.append_ #[T, T] ty #[a.eval x, a.eval y]).run X.P w = .ok v' w' ∧ w'.ownsRow 0 E R.size v' (l.length + m.length) (xs ++ news) ∧ w.grownBy w' (a.eval x).ownBlock ∧ (∀ k, v'.ownBlock = some k → (a.eval x).ownBlock = some k ∨ w.heap.size ≤ k) ∧ news.length = m.length * R.size ∧ RowC R (X.S own) w news m := by
    rcases hy5 with rfl | ⟨b, off, rfl, hst, hrw⟩
    · simp only [List.length_nil] at hy2
      subst hy2
      rw [hy1]
      exact ⟨_, w, [], run_append_0 hu hinf hrow ao c, by simpa using hrow, ⟨rfl, rfl, rfl, Nat.le_refl _, fun _ _ _ => rfl⟩, fun k hk => .inl hk, by simp, fun i hi => absurd hi (Nat.not_lt_zero i)⟩
    · obtain ⟨cs, c1, c2, c3⟩ := Row.cells hrw
      by_cases hm : m = []
      · subst hm
        simp only [List.length_nil] at hy2
        subst hy2
        rw [hy1]
        exact ⟨_, w, [], run_append_0 hu hinf hrow _ c, by simpa using hrow, ⟨rfl, rfl, rfl, Nat.le_refl _, fun _ _ _ => rfl⟩, fun k hk => .inl hk, by simp, fun i hi => absurd hi (Nat.not_lt_zero i)⟩
      · have hmp : 0 < m.length := List.length_pos_iff.2 hm
        have hcv : ∀ u ∈ cs, cellv u = true := RowC.flat c1 c3
        subst hy2
        rw [hy1]
        obtain ⟨v', w', q1, q2, q3, q4⟩ := run_append_1 (ty := ty) (c := c) hu hinf hz hz1 hz2 hz3 hrow hmp c1 c2 hcv hb hz4
        exact ⟨v', w', cs, q1, q2, q3, q4, c1, c3⟩
  obtain ⟨v', w', news, hr, k1, k2, k3, k4, k5⟩ := key
  have hrun : (execOp a.eval ⟨some d, .call ⟨.builtin .append, #[x, y], #[T, T]⟩, ty, pos, af, g⟩).run X.P w = .ok (.value v') w' := by
    simp only [execOp, resolve, invoke, builtin, Sem.run_bind, Sem.run_pure, Result.andThen_ok, List.map_toArray, List.map_cons, List.map_nil, hr]
  unfold Oper.wp
  rw [hrun, Oper.upon_value]
  obtain ⟨gs', own', h1, h2, h3⟩ := hs.turn (j := j) (v' := v') (e := OwnSl R E (l ++ m)) (w' := w') (some i) hj (fun k h => by cases h; rw [hi]; simp) (fut_grown k2 (fun k hk => by have := hB k hk; exact ⟨by rw [this]; simp, this⟩))
    (fun own' _ q1 q2 q3 _ => by
      refine ⟨xs ++ news, by rw [List.length_append]; exact k1, fun k hk => ?_, ?_⟩
      · rcases k3 k hk with h | h
        · have := hB k h
          exact q1 k (own_lt hs this) (by rw [this]; simp) this
        · exact q2 k h (k1.lt k hk).2
      · have := (RowC.append (c3 := []) hrow.1 k4 hR k5).later q3
        simpa using this)
  exact ⟨gs', own', h1.put (lt_of_blt hd) (Fut.refl _ _) h2⟩
/-- A pointer into a slice of the call's own: element k, off cells behind its beginning; s: an element's cells. -/
def EP (i k s off : Nat) : Ent := ⟨fun gs _ _ v => ∃ b n c, gs i = some (.slice (some ⟨b, 0, none⟩) n c) ∧ v = .pointer (some ⟨b, k * s + off, none⟩), fun hg _ ⟨b, n, c, h1, h2⟩ => ⟨b, n, c, hg _ _ h1, h2⟩⟩
theorem Keeps.ep {ks : List Nat} {i k s o : Nat} (h : ks.contains i = true) : Keeps ks (EP i k s o) := fun gs _ _ v ⟨b, n, c, h1, h2⟩ => ⟨b, n, c, by
  show keepOf ks gs i = _
  rw [keepOf, if_pos h]; exact h1, h2⟩
theorem Ren.ep {σ : List (Nat × Nat)} {i i' k s o : Nat} (h : σ.lookup i' = some i) : Ren σ (EP i k s o) (EP i' k s o) := fun gs _ _ v ⟨b, n, c, h1, h2⟩ => ⟨b, n, c, by simp [gsOf, h, h1], h2⟩
theorem qX (hx : Opd Γ x (OS i)) (hu : X.P.underlying T = some (.slice E)) (hi : Ω.lookup i = some (OwnSl R E l) := by first | rfl | exact AOC.get rfl) (hd : Nat.blt d X.n = true := by rfl) :
    ST X Γ Ω ⟨some d, .call ⟨.builtin .len, #[x], #[T]⟩, ty, pos, af, g⟩ ((d, D (RInt .i64) (l.length : Int)) :: Γ) Ω :=
  ST.val0 rfl hd fun a w gs own hs => by
    have hv : gs i = some (a.eval x) := hx.sat hs
    obtain ⟨v, hv', xs, hrow, hB, hR⟩ := hs.obj i _ hi
    rw [hv] at hv'
    simp only [Option.some.injEq] at hv'
    subst hv'
    have hsl : ∃ ao c, a.eval x = .slice ao l.length c ∧ l.length ≤ maxLen := by
      rcases hrow.2 with ⟨h1, h2⟩ | ⟨g, cap, cur, h1, _, _, h3, h4, _⟩
      · exact ⟨none, 0, by rw [h1, h2], by rw [h2]; exact Nat.zero_le _⟩
      · exact ⟨_, _, h1, Nat.le_trans h3 h4⟩
    obtain ⟨ao, c, h1, h2⟩ := hsl
    have h2' : (l.length : Int) ≤ 9223372036854775807 := by simp only [maxLen] at h2; omega
    refine ⟨.int .i64 (l.length : Int), ?_, RInt.val_iff.2 ⟨rfl, by simp [inK, IntKind.min, IntKind.max, IntKind.signed, IntKind.bits]; omega⟩⟩
    rw [run_len, h1, run_len_slice hu]
    simp only [goInt]
theorem qT {k : IntKind} {n : Int} (hx : Opd Γ x (OS i)) (hy : Opd Γ y (D (RInt k) n)) (hu : X.P.underlying T = some (.slice E)) (hE : TyOK X.P E R) (hb : 0 ≤ n ∧ n < (l.length : Int)) (hi : Ω.lookup i = some (OwnSl R E l) := by first | rfl | exact AOC.get rfl) (hd : Nat.blt d X.n = true := by rfl) :
    ST X Γ Ω ⟨some d, .indexAddr T x y, ty, pos, af, g⟩ ((d, EP i n.toNat R.size 0) :: Γ) Ω :=
  ST.val0 rfl hd fun a w gs own hs => by
    have hv : gs i = some (a.eval x) := hx.sat hs
    obtain ⟨v, hv', xs, hrow, hB, hR⟩ := hs.obj i _ hi
    rw [hv] at hv'
    simp only [Option.some.injEq] at hv'
    subst hv'
    obtain ⟨h3, _⟩ := RInt.val_iff.1 (hy.get hs)
    rcases hrow.2 with ⟨h1, h2⟩ | ⟨b, cap, cur, h1, _, hg, h4, _⟩
    · omega
    · refine ⟨.pointer (some ⟨b, n.toNat * R.size + 0, none⟩), ?_, ⟨b, _, _, by rw [hv, h1], rfl⟩⟩
      simp only [execOp, h1, h3]
      rw [run_value]
      simp only [Instr.indexAt, asIntOf, run_bind, run_underlying hu, pure, Sem.run]
      rw [if_pos hb]
      simp only [run_bind, hE.run_size, Sem.run, addr_add, Nat.zero_add, Nat.add_zero]
theorem qW {f sz k s o : Nat} (hx : Opd Γ x (EP i k s o)) (hF : fieldOff X.P T f = some (off, sz + 1)) (hd : Nat.blt d X.n = true := by rfl) :
    ST X Γ Ω ⟨some d, .fieldAddr T x f, ty, pos, af, g⟩ ((d, EP i k s (o + off)) :: Γ) Ω :=
  ST.val0 rfl hd fun a w gs own hs => by
    obtain ⟨b, n, c, h1, h2⟩ := hx.sat hs
    refine ⟨.pointer (some ⟨b, k * s + (o + off), none⟩), ?_, ⟨b, n, c, h1, rfl⟩⟩
    simp only [execOp, h2]
    rw [run_value, run_fieldAt hF, Nat.add_assoc]
theorem own_block {a : Act} {w : World} {gs : Nat → Option Value} {own : Nat → Option Nat} (hs : SatD X Γ Ω a w gs own) (hi : Ω.lookup i = some (OwnSl R E l)) {b n c : Nat} (hv : gs i = some (.slice (some ⟨b, 0, none⟩) n c)) :
    ∃ xs cur, own b = some i ∧ w.heap[b]? = some (.cells cur E (0, 0)) ∧ n = l.length ∧ xs.length = l.length * R.size ∧ l.length ≤ c ∧ c ≤ maxLen ∧ cur.size = c * R.size ∧ cur.toList.take (l.length * R.size) = xs ∧ RowC R (X.S own) w xs l := by
  obtain ⟨v, hv', xs, hrow, hB, hR⟩ := hs.obj i _ hi
  rw [hv] at hv'
  simp only [Option.some.injEq] at hv'
  subst hv'
  rcases hrow.2 with ⟨h1, h2⟩ | ⟨b', cap, cur, h1, _, hg, h4, h5, h6, h7⟩
  · cases h1
  · cases h1
    exact ⟨xs, cur, hB b rfl, hg, rfl, hrow.1, h4, h5, h6, h7, hR⟩
theorem vt [Inhabited α] {n : Int} {o : Nat} {get : α → β} (hx : Opd Γ x (EP i n.toNat R.size o)) (hf : FieldOf R o Rf get) (hT : TyOK X.P T Rf) (hb : 0 ≤ n ∧ n < (l.length : Int)) (hd : Nat.blt d X.n = true := by rfl) (hi : Ω.lookup i = some (OwnSl R E l) := by first | rfl | exact AOC.get rfl) :
    ST X Γ Ω ⟨some d, .load T x, ty, pos, af, g⟩ ((d, D Rf (get (nth l n))) :: Γ) Ω :=
  ST.val0 rfl hd fun a w gs own hs => by
    obtain ⟨b, n', c, h1, h2⟩ := hx.sat hs
    obtain ⟨xs, cur, e1, e2, e3, e4, e5, _, e6, e7, e8⟩ := own_block hs hi h1
    have hlt : n.toNat < l.length := by omega
    have hr := e8 n.toNat hlt
    have hrl := R.len hr
    have hc : CellsAt w b (n.toNat * R.size) ((xs.drop (n.toNat * R.size)).take R.size) := by
      have h0 : CellsAt w b 0 cur.toList := CellsAt.of_block (T := E) (f := (0, 0)) (by simpa using e2)
      have := h0.part (n.toNat * R.size) R.size
      rw [Nat.zero_add] at this
      rw [← e7]
      have hle : (n.toNat + 1) * R.size ≤ l.length * R.size := Nat.mul_le_mul_right _ hlt
      rw [Nat.add_mul, Nat.one_mul] at hle
      rw [List.drop_take, List.take_take, Nat.min_eq_left (by omega)]
      exact this
    have hc2 := hc.part o Rf.size
    have hn : nth l n = l[n.toNat] := by simp [nth, hlt]
    rw [← hn] at hr
    refine ⟨_, ?_, RT.val_of (hf.get hr)⟩
    simp only [execOp, h2, Instr.loadAt]
    rw [run_value, run_bind]
    simp only [Instr.sureAddr, pure, Sem.run]
    rw [run_loadVar hT (hf.get hr) hc2]
theorem ve [Inhabited α] {n : Int} {o : Nat} {set : α → β → α} {z : β} (hx : Opd Γ x (EP i n.toNat R.size o)) (hy : Opd Γ y (D Rf z)) (hf : FieldSet R o Rf set) (hT : TyOK X.P T Rf) (hb : 0 ≤ n ∧ n < (l.length : Int)) (hi : Ω.lookup i = some (OwnSl R E l) := by first | rfl | exact AOC.get rfl) :
    ST X Γ Ω ⟨none, .store T x y, ty, pos, af, g⟩ Γ ((i, OwnSl R E (l.set n.toNat (set (nth l n) z))) :: Ω) := by
  rintro a w Q ⟨gs, own, hs⟩
  obtain ⟨b, n', c, h1, h2⟩ := hx.sat hs
  have hz := RT.val_cells (hy.get hs)
  obtain ⟨xs, cur, e1, e2, e3, e4, e5, e5', e6, e7, e8⟩ := own_block hs hi h1
  subst e3
  have hlt : n.toNat < l.length := by omega
  have hn : nth l n = l[n.toNat] := by simp [nth, hlt]
  have hr := e8 n.toNat hlt
  have hl1 := Rf.len hz
  have hl2 : (a.eval y).cells.size = Rf.size := by simpa using hl1
  have hct : cur.toList.length = cur.size := Array.length_toList
  have hle := hf.le
  have hle2 : (n.toNat + 1) * R.size ≤ l.length * R.size := Nat.mul_le_mul_right _ hlt
  rw [Nat.add_mul, Nat.one_mul] at hle2
  have hle3 : l.length * R.size ≤ cur.size := by rw [e6]; exact Nat.mul_le_mul_right _ e5
  obtain ⟨w', hrun', hfut, hsz, hb'⟩ := run_storeCells (P := X.P) (a.eval y).cells.toList 0 (n.toNat * R.size + o) w cur.toList (by simpa using e2) (by simp only [Array.length_toList, hl2]; omega) (Rf.flat hz)
  simp only [Nat.add_zero] at hb'
  have hrun : (execOp a.eval ⟨none, .store T x y, ty, pos, af, g⟩).run X.P w = .ok .skip w' := by
    simp only [execOp, h2, Instr.storeAt, run_bind]
    simp only [Instr.sureAddr, pure, Sem.run, storeVar, run_bind, hT.run_size]
    rw [if_neg (by simpa using hl1)]
    simp only [hrun', Sem.run]
  unfold Oper.wp
  rw [hrun, Oper.upon_skip]
  refine ⟨gs, own, ?_⟩
  show SatD X Γ _ a w' gs own
  have hlater : Later (X.S own) w (X.S own) w' := hfut.later (fun x _ hx => by subst hx; exact .inr (by rw [e1]; rfl)) (fun _ _ k => k)
  refine hs.update h1 (by rw [hi]; simp) (hfut.mono fun x _ hx => by subst hx; exact e1) ?_
  have hsl : (splice cur.toList (n.toNat * R.size + o) (a.eval y).cells.toList).length = cur.toList.length := splice_length (by simp only [Array.length_toList, hl2]; omega)
  refine ⟨(splice cur.toList (n.toNat * R.size + o) (a.eval y).cells.toList).take (l.length * R.size), ⟨?_, .inr ⟨b, c, _, ?_, Nat.zero_le _, hb', ?_, e5', ?_, ?_⟩⟩, ?_, ?_⟩
  · rw [List.length_take, hsl, List.length_set, hct]; omega
  · simp
  · simpa using e5
  · simp [hsl, e6]
  · simp
  · intro k hk
    simp [Value.ownBlock] at hk
    subst hk; exact e1
  · intro j hj
    have hjl : j < l.length := by simpa using hj
    have hle4 : (j + 1) * R.size ≤ l.length * R.size := Nat.mul_le_mul_right _ hjl
    rw [Nat.add_mul, Nat.one_mul] at hle4
    rw [List.drop_take, List.take_take, Nat.min_eq_left (by omega)]
    have hxj : ∀ j, j < l.length → (xs.drop (j * R.size)).take R.size = (cur.toList.drop (j * R.size)).take R.size := by
      intro j hj
      have hle4 : (j + 1) * R.size ≤ l.length * R.size := Nat.mul_le_mul_right _ hj
      rw [Nat.add_mul, Nat.one_mul] at hle4
      rw [← e7, List.drop_take, List.take_take, Nat.min_eq_left (by omega)]
    by_cases hjn : j = n.toNat
    · subst hjn
      rw [List.getElem_set_self, hn]
      have hsp : ((splice cur.toList (n.toNat * R.size + o) (a.eval y).cells.toList).drop (n.toNat * R.size)).take R.size = splice ((cur.toList.drop (n.toNat * R.size)).take R.size) o (a.eval y).cells.toList := by
        apply List.ext_getElem
        · rw [splice_length (by simp; omega)]; simp [hsl]
        · intro q h1 h2
          simp only [splice_length (show n.toNat * R.size + o + (a.eval y).cells.toList.length ≤ cur.toList.length by rw [hct, hl1]; omega), List.length_take, List.length_drop, hct] at h1
          simp only [splice, List.getElem_append, List.getElem_take, List.getElem_drop, List.length_append, List.length_take, List.length_drop, hct, hl1]
          repeat' split
          all_goals (try omega)
          all_goals (congr 1 <;> omega)
      rw [hsp, ← hxj _ hlt]
      exact hf.set (R.stable hr hlater) (Rf.stable hz hlater)
    · rw [List.getElem_set_ne (fun e => hjn e.symm)]
      have hsp : ((splice cur.toList (n.toNat * R.size + o) (a.eval y).cells.toList).drop (j * R.size)).take R.size = (cur.toList.drop (j * R.size)).take R.size := by
        have hcase : j * R.size + R.size ≤ n.toNat * R.size ∨ n.toNat * R.size + R.size ≤ j * R.size := by
          rcases Nat.lt_or_gt_of_ne hjn with h | h
          · left
            have := Nat.mul_le_mul_right R.size (show j + 1 ≤ n.toNat from h)
            rw [Nat.add_mul, Nat.one_mul] at this; exact this
          · right
            have := Nat.mul_le_mul_right R.size (show n.toNat + 1 ≤ j from h)
            rw [Nat.add_mul, Nat.one_mul] at this; exact this
        apply List.ext_getElem
        · simp [hsl]
        · intro q h1 h2
          simp only [splice_length (show n.toNat * R.size + o + (a.eval y).cells.toList.length ≤ cur.toList.length by rw [hct, hl1]; omega), List.length_take, List.length_drop, hct] at h1
          simp only [splice, List.getElem_append, List.getElem_take, List.getElem_drop, List.length_append, List.length_take, List.length_drop, hct, hl1]
          repeat' split
          all_goals (try omega)
          all_goals (first | rfl | (congr 1 <;> omega))
      rw [hsp, ← hxj _ hjl]
      exact R.stable (e8 j hjl) hlater
/-! ### 3. Let go -/
theorem SatD.freeze {a : Act} {w : World} {ts : List Nat} {gs : Nat → Option Value} {own : Nat → Option Nat} (hi : Ω.lookup i = some (OwnSl R E l)) (ht : ∀ t ∈ ts, Γ.lookup t = some (OS i)) (hs : SatD X Γ Ω a w gs own) :
    ∃ ow2, SatD X (ts.map (fun t => (t, D (RSlice R) l)) ++ Γ) ((i, OEnt.dead) :: Ω) a w gs ow2 ∧ ∀ v, gs i = some v → (RSlice R).val (X.S ow2) w v l := by
  obtain ⟨v, hv, xs, hrow, hB, hR⟩ := hs.obj i _ hi
  obtain ⟨ow2, hown⟩ : ∃ ow2 : Nat → Option Nat, ∀ b k, ow2 b = some k ↔ own b = some k ∧ k ≠ i := by
    refine ⟨fun b => if own b = some i then none else own b, fun b k => ?_⟩
    show (if own b = some i then none else own b) = some k ↔ _
    split
    · rename_i h
      constructor
      · intro h; cases h
      · rintro ⟨h1, h2⟩; rw [h] at h1; exact absurd (Option.some.inj h1).symm h2
    · rename_i h
      constructor
      · intro h1; exact ⟨h1, fun e => h (by rw [h1, e])⟩
      · intro h1; exact h1.1
  have hL : Later (X.S own) w (X.S ow2) w := Later.less_of fun b _ hb => by
    rcases hb with hb | hb
    · exact .inl hb
    · cases ho : ow2 b with
      | none => rw [ho] at hb; cases hb
      | some k => right; rw [((hown b k).1 ho).1]; rfl
  have hval : (RSlice R).val (X.S ow2) w v l := by
    refine RSlice.val_iff.2 ?_
    rcases hrow.2 with ⟨h1, h2⟩ | ⟨b, cap, cur, h1, _, hg, h4, h5, h6, h7⟩
    · have : l = [] := List.eq_nil_of_length_eq_zero h2
      exact ⟨none, 0, 0, h1, h2, Nat.le_refl _, Nat.zero_le _, .inl this⟩
    · refine ⟨_, _, _, h1, rfl, h4, ?_, .inr ⟨b, 0, rfl, ⟨?_, ?_⟩, ?_⟩⟩
      · exact Nat.le_trans h4 h5
      · have := hB b (by rw [h1]; rfl)
        exact (hs.ownok b i this).1
      · have hbi := hB b (by rw [h1]; rfl)
        rintro (k | k)
        · exact (hs.ownok b i hbi).2.1 k
        · cases ho : ow2 b with
          | none => rw [ho] at k; cases k
          | some q =>
            obtain ⟨h1, h2⟩ := (hown b q).1 ho
            rw [hbi] at h1; exact h2 (Option.some.inj h1).symm
      · have h0 : CellsAt w b 0 cur.toList := CellsAt.of_block (T := E) (f := (0, 0)) (by simpa using hg)
        have hc : CellsAt w b 0 xs := by
          have := h0.part 0 (l.length * R.size)
          rw [List.drop_zero, h7] at this; exact this
        exact (hR.later hL).row hc
  refine ⟨ow2, {
    size := hs.size
    defers := hs.defers
    glob := hs.glob.later hL
    fut := hs.fut
    olt := hs.olt
    ownok := fun b k hb => hs.ownok b k ((hown b k).1 hb).1
    keys := fun k hk => by
      rw [lookup_cons]; split
      · simp
      · exact hs.keys k hk
    okeys := fun b k hb => by
      rw [lookup_cons]; split
      · simp
      · exact hs.okeys b k ((hown b k).1 hb).1
    obj := fun k e hk => by
      rw [lookup_cons] at hk
      by_cases hki : k = i
      · subst hki
        simp only [if_true, Option.some.injEq] at hk
        subst hk
        exact ⟨v, hv, trivial⟩
      · rw [if_neg hki] at hk
        obtain ⟨x, h1, h2⟩ := hs.obj k e hk
        refine ⟨x, h1, ?_⟩
        have hBk : (fun b => ow2 b = some k) = (fun b => own b = some k) := by
          funext b
          rw [eq_iff_iff, hown b k]
          exact ⟨fun h => h.1, fun h => ⟨h, hki⟩⟩
        rw [hBk]
        exact e.stable (fun _ _ k => k) h2 (fun _ _ => rfl) hL
    ent := fun t e ht' => by
      rw [lookup_append_some] at ht'
      split at ht'
      · rename_i e' hl
        simp only [Option.some.injEq] at ht'
        subst ht'
        have hmem : t ∈ ts ∧ e' = D (RSlice R) l := by
          clear ht
          induction ts with
          | nil => simp at hl
          | cons q ts ih =>
            rw [List.map_cons, lookup_cons] at hl
            by_cases hq : t = q
            · subst hq; simp only [if_true, Option.some.injEq] at hl; exact ⟨by simp, hl.symm⟩
            · rw [if_neg hq] at hl
              obtain ⟨h1, h2⟩ := ih hl
              exact ⟨by simp [h1], h2⟩
        rw [hmem.2]
        have htv : gs i = some (a.tmps.getD t undef) := hs.ent t _ (ht t hmem.1)
        rw [hv] at htv
        simp only [Option.some.injEq] at htv
        rw [← htv]
        exact hval
      · exact e.mono (fun _ _ k => k) hL (hs.ent t e ht') }, fun v' hv' => by rw [hv] at hv'; cases hv'; exact hval⟩
theorem Sat.freeze {a : Act} {w : World} {ts : List Nat} (hi : Ω.lookup i = some (OwnSl R E l)) (ht : ∀ t ∈ ts, Γ.lookup t = some (OS i)) (h : Sat X Γ Ω a w) :
    Sat X (ts.map (fun t => (t, D (RSlice R) l)) ++ Γ) ((i, OEnt.dead) :: Ω) a w := by
  obtain ⟨gs, own, hs⟩ := h
  obtain ⟨ow2, h1, _⟩ := hs.freeze hi ht
  exact ⟨gs, ow2, h1⟩
theorem JL.freeze {all : Array Oper} {os : List Oper} {Q : Exit → Act → World → Prop} (ts : List Nat) (hi : Ω.lookup i = some (OwnSl R E l)) (ht : ∀ t ∈ ts, Γ.lookup t = some (OS i)) (h : JL X all (ts.map (fun t => (t, D (RSlice R) l)) ++ Γ) ((i, OEnt.dead) :: Ω) os Q) : JL X all Γ Ω os Q :=
  fun a w hs => h a w (hs.freeze hi ht)
theorem JC.freeze {c : Code} {Q : Exit → Act → World → Prop} (ts : List Nat) (hi : Ω.lookup i = some (OwnSl R E l)) (ht : ∀ t ∈ ts, Γ.lookup t = some (OS i)) (h : JC X (ts.map (fun t => (t, D (RSlice R) l)) ++ Γ) ((i, OEnt.dead) :: Ω) c Q) : JC X Γ Ω c Q :=
  fun a w hs => h a w (hs.freeze hi ht)
theorem JE.freeze {e : Exit} {Q : Exit → Act → World → Prop} (ts : List Nat) (hi : Ω.lookup i = some (OwnSl R E l)) (ht : ∀ t ∈ ts, Γ.lookup t = some (OS i)) (h : JE X (ts.map (fun t => (t, D (RSlice R) l)) ++ Γ) ((i, OEnt.dead) :: Ω) Q e) : JE X Γ Ω Q e :=
  fun a w hs => h a w (hs.freeze hi ht)
end
end Go.Trw
