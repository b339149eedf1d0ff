/- Own work: from a contract on data to the row: what is read is handed over; behind the call it reads as it did. -/
import Derived.Test.YthdcblpadgdamaaGreatDoorTrwRead
import Derived.WalkKit
import Derived.OpenShut
import Derived.Deep.DeepHandedRow
import Derived.Carry
set_option linter.all false
namespace Go.Trw
open Go Go.ChangeShapes Go.WideShapes Go.ChangeAt Go.RowKit
variable {H : Type} {enc : TypeId × Value → H} {P : Program} {W W' : World}
theorem Fut.below {S : Nat → Prop} (h : Fut S W W') (hS : ∀ b, ¬ S b) : Below W.heap.size W W' := ⟨h.os, h.tape, h.output, h.size, fun b hb => h.block b hb (hS b)⟩
theorem trodAll_stays (hl : laidOutB P = true) (hb : Below W.heap.size W W') : ∀ {ts : List TypeId} {vs : List Value} {ds : List (DataW H)} {ps : List MemPlace}, ts.all (fun t => P.readableRec t && decide (t < P.types.size)) = true →
    DataW.TrodAll enc P W 0 (fun _ => true) true ts vs ds ps → (∀ x ∈ ps, x.block < W.heap.size) → ∀ sp : Nat → Bool, (∀ p ∈ ps, sp p.block = true) → DataW.TrodAll enc P W' 0 sp true ts vs ds ps
  | [], vs, ds, ps, _, h, _, sp, _ => by
    obtain ⟨rfl, rfl, rfl⟩ := trodAll_nil h
    exact trodAll_mk0
  | t :: ts, vs, ds, ps, ht, h, hlt, sp, hsp => by
    obtain ⟨v, vs', d, ds', p, q, rfl, rfl, rfl, h1, h2⟩ := trodAll_cons h
    simp only [List.all_cons, Bool.and_eq_true, decide_eq_true_eq] at ht
    exact trodAll_cons_mk (WideElems.Trod_stays hl ht.1.1 ht.1.2 h1 (fun x hx => hb.same (hlt x (by simp [hx]))) (fun x hx => hsp x (by simp [hx])))
      (trodAll_stays hl hb ht.2 h2 (fun x hx => hlt x (by simp [hx])) sp (fun x hx => hsp x (by simp [hx])))
/-- The row's post: the answer is true; the input reads as it did. -/
theorem post_true {f : Func} {s : ChangeSpec} {tb : TypeId} {args : Array Value} {ds gs : List (DataW H)} {before : List MemPlace}
    (hl : laidOutB P = true) (hp : f.params.toList.all (fun t => P.readableRec t && decide (t < P.types.size)) = true) (hr : f.resultTypes = #[tb]) (htb : P.underlying tb = some .bool) (hv : s.vars = [])
    (hs : s.fn H (ds ++ gs) = { results := [.lit (.bool true)], args := ds }) (hW : DataW.Whole enc P f.params.toList s.vars false W args.toList ds gs before) (hb : Below W.heap.size W W') :
    s.post enc P f false true false false W args (.bool true) W' := by
  have hlt := hW.lt
  have hW0 := hW
  obtain ⟨p, q, hA, hV, rfl, hz, hn⟩ := hW
  rw [hv] at hV
  obtain ⟨rfl, rfl⟩ := trodVars_none hV
  have hargs : ∀ sp : Nat → Bool, (∀ x ∈ p, sp x.block = true) → DataW.TrodAll enc P W' 0 sp true f.params.toList args.toList ds p := trodAll_stays hl hb hp hA (fun x hx => hlt x (by simp [hx]))
  have hres : ∀ (b : Nat) (sp : Nat → Bool) (hd : Bool), DataW.TrodAll enc P W' b sp hd f.resultTypes.toList (Value.resultList f.resultTypes.size (.bool true)) [.lit (.bool true)] [] := by
    intro b sp hd
    rw [hr]
    exact trodAll_cons_mk (shut_bool htb _) trodAll_mk0
  have hold : ∀ x ∈ p ++ [], (fun b => decide (b < W.heap.size)) x.block = true := fun x hx => by simpa using hlt x hx
  refine ⟨ds, [], p ++ [], [], p, [], hW0, by rw [hs]; exact hres _ _ _, by rw [hs]; exact hargs _ (fun x hx => hold x (by simp [hx])), by rw [hv, hs]; rfl, hb.frame _, fun hag => by cases hag⟩
/-- A value that came in represents data. -/
theorem rd_val_agg {α : Type} {R : RT α} {ok : α → Prop} {t : TypeId} {r : Reach} {base : Nat} {v : Value} {d : DataW H} {ps : List MemPlace} {fs : Array Field} (hu : P.underlying t = some (.struct fs)) (hR : R.agg = true)
    (hrd : ∀ n, Rd P W n t R ok) (hok : Value.okWide P W r base t v) (h : DataW.Trod enc P W 0 (fun _ => true) true t v d ps) : ∃ x, R.val noB W v x ∧ ok x := by
  unfold Value.okWide at hok
  rw [hu] at hok
  obtain ⟨cs, rfl, _, _⟩ := hok
  obtain ⟨n, hn⟩ := h
  obtain ⟨x, h1, h2⟩ := hrd n H enc _ _ hn
  exact ⟨x, And.intro (fun _ => ⟨cs, rfl, h1⟩) (fun k => Bool.noConfusion (hR.symm.trans k)), h2⟩
theorem rd_val_one {α : Type} {R : RT α} {ok : α → Prop} {t : TypeId} {v : Value} {d : DataW H} {ps : List MemPlace} (hc : v.cells = #[v]) (hR : R.agg = false)
    (hrd : ∀ n, Rd P W n t R ok) (h : DataW.Trod enc P W 0 (fun _ => true) true t v d ps) : ∃ x, R.val noB W v x ∧ ok x := by
  obtain ⟨n, hn⟩ := h
  obtain ⟨x, h1, h2⟩ := hrd n H enc _ _ hn
  rw [hc] at h1
  exact ⟨x, And.intro (fun k => Bool.noConfusion (hR.symm.trans k)) (fun _ => h1), h2⟩
end Go.Trw
namespace Go.Trw
open Go
/-- A table that the row lists. -/
theorem tab_of_laid {P : Program} {W : World} {name : String} {k : IntKind} {zs : List Int} {g t e n : Nat}
    (hg : P.globalNamed name = some g) (hty : (P.globals[g]?).map (·.type) = some t) (ht : P.underlying t = some (.array n e)) (he : P.underlying e = some (.int k)) (hce : P.cellsOf e = 1) (hct : P.cellsOf t = n) :
    ∀ {laid : List (String × DataW Unit)} {ps : List MemPlace}, DataW.LaidVars P W laid ps → (name, Lib.tabData k zs) ∈ laid → Lib.TabIs P W name k zs
  | [], _, _, hm => absurd hm (by simp)
  | x :: rest, _, h, hm => by
    obtain ⟨g', t', cs, fuel, p, q, hg', ht', hvar, hd, hr, _⟩ := h
    rcases List.mem_cons.1 hm with hx | hx
    · subst hx
      obtain rfl := Option.some.inj (hg.symm.trans hg')
      obtain rfl := Option.some.inj (hty.symm.trans ht')
      unfold Lib.TabIs
      rw [hvar, ← Lib.cells_of_tab ht he hce hct hd]
    · exact tab_of_laid hg hty ht he hce hct hr hx
end Go.Trw
