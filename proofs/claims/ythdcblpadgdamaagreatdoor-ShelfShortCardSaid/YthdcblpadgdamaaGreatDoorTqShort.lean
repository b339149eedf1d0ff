/- Proved: the law 'ShelfShort' answers true for every input, and each argument reads afterwards as it read before. -/
import Derived.Test.YthdcblpadgdamaaGreatDoorCards
import Derived.Test.YthdcblpadgdamaaGreatDoorTie
import Derived.Test.YthdcblpadgdamaaGreatDoorTzP3
import Derived.Test.YthdcblpadgdamaaGreatDoorTqRead
import Derived.Test.YthdcblpadgdamaaGreatDoorTpShort
import Derived.Test.YthdcblpadgdamaaGreatDoorTrwClose
import Derived.ProofKit
set_option linter.all false
set_option maxRecDepth 100000
namespace Go.Proofs.YthdcblpadgdamaaGreatDoor.shelfShort
open Go Go.Trw Go.ChangeShapes Go.WideShapes Go.ChangeAt Go.RowKit
theorem own : ownKnob Tryz.prog.godebug = none := by kernel_rfl
theorem laidOut : laidOutB Tryz.prog = true := by kernel_rfl
theorem table {W : World} (h : laidMetH Tryz.prog Rows.shelfShortRow.laid W) : Lib.TabIs Tryz.prog W "internal/strconv.uint64pow10" .u64 Lib.pow10Tab := by
  obtain ⟨ps, hl, _⟩ : laidMet Tryz.prog Rows.shelfShortRow.laid W := h
  exact tab_of_laid (g := 1) (t := 326) (e := 46) (n := 20) (by kernel_rfl) (by kernel_rfl) Tryz.underlying326 Tryz.underlying46 (by kernel_rfl) (by kernel_rfl) hl (by show _ ∈ [_, _, _]; exact List.mem_cons_of_mem _ (List.mem_cons_of_mem _ (List.mem_cons_self)))
theorem fullOf {W : World} (h : laidMetH Tryz.prog Rows.shelfShortRow.laid W) (hs : W.ShapedOpen Tryz.prog) : Base W := ⟨Tryz.laysM143.s1_3 W hs, table h⟩
set_option maxHeartbeats 2000000 in
theorem contract (H : Type) (enc : TypeId × Value → H) (W : World) (base : Nat) (args : Array Value) (ds gs : List (DataW H)) (before : List MemPlace)
    (hval : ∀ (j : Nat) t v, Tryz.f6.params[j]? = some t → args[j]? = some v → Value.okWide Tryz.prog W .any base t v)
    (hW : DataW.Whole enc Tryz.prog Tryz.f6.params.toList Rows.shelfShortSpec.vars false W args.toList ds gs before) (hL : laidMetH Tryz.prog Rows.shelfShortRow.laid W) (hsh : W.ShapedOpen Tryz.prog) :
    Calls Tryz.prog 6 args W fun e W' => ∃ v, e = .returned v ∧ Rows.shelfShortSpec.post enc Tryz.prog Tryz.f6 false true false false W args v W' := by
  have hW' := hW
  obtain ⟨p, q, hA0, hV, rfl, hfz, hnd⟩ := hW
  have hA : DataW.TrodAll enc Tryz.prog W 0 (fun _ => true) true Tryz.f6.params.toList args.toList ds p := hA0
  rw [Tryz.params6] at hA hval
  obtain ⟨v0, vs0, d0, ds0, p0, q0, hargs, rfl, rfl, h0, r0'⟩ := trodAll_cons hA
  obtain ⟨v1, vs1, d1, ds1, p1, q1, rfl, rfl, rfl, h1, r1'⟩ := trodAll_cons r0'
  obtain ⟨v2, vs2, d2, ds2, p2, q2, rfl, rfl, rfl, h2, r2'⟩ := trodAll_cons r1'
  obtain ⟨rfl, rfl, rfl⟩ := trodAll_nil r2'
  obtain rfl : args = #[v0, v1, v2] := by cases args; simp_all
  obtain ⟨rfl, rfl⟩ := trodVars_none hV
  obtain ⟨x0, r0, k0⟩ := rd_val_agg Tryz.underlying28 rfl rd28 (hval 0 28 v0 rfl rfl) h0
  obtain ⟨x1, r1, k1⟩ := rd_val_agg Tryz.underlying48 rfl rd48 (hval 1 48 v1 rfl rfl) h1
  have h2' := h2
  obtain ⟨y2, rfl, _⟩ := open_int Tryz.underlying5 (hval 2 5 v2 rfl rfl) h2'
  obtain ⟨x2, r2, k2⟩ := rd_val_one rfl rfl rd5 h2
  refine Calls.mono ((trystlaw20_ShelfShort_con x0 x1 x2 true (Tot.eq (shelfShortTot k0 k1 k2))) W noB [v0, v1, _] (fun _ h => h.elim) ⟨W, fullOf hL hsh, Nat.le_refl _, fun b hb => ⟨rfl, fun k => k⟩⟩ (.cons r0 (.cons r1 (.cons r2 .nil)))) fun e W' ⟨v, he, hf, hv⟩ => ?_
  obtain rfl := RBool.val_iff.1 hv
  exact ⟨_, he, post_true laidOut (by kernel_rfl) (by kernel_rfl) Tryz.underlying4 rfl rfl hW' (hf.below fun _ k => k)⟩
/-- A world for the witness: the listed tables hold what their initialisers lay. -/
noncomputable def laidWorld (os : Os) : World :=
  { World.holding Tryz.prog os ⟨#[], #[], []⟩ with heap := ((World.holding Tryz.prog os ⟨#[], #[], []⟩).heap
    |>.modify 2 (fun | .cells _ t fr => .cells ([0, 1, 28, 2, 29, 14, 24, 3, 30, 22, 20, 15, 25, 17, 4, 8, 31, 27, 13, 23, 21, 19, 16, 7, 26, 12, 18, 6, 11, 5, 10, 9].map fun z => Value.int .u8 z).toArray t fr | o => o)
    |>.modify 3 (fun | .cells _ t fr => .cells ([0, 1, 56, 2, 57, 49, 28, 3, 61, 58, 42, 50, 38, 29, 17, 4, 62, 47, 59, 36, 45, 43, 51, 22, 53, 39, 33, 30, 24, 18, 12, 5, 63, 55, 48, 27, 60, 41, 37, 16, 46, 35, 44, 21, 52, 32, 23, 11, 54, 26, 40, 15, 34, 20, 31, 10, 25, 14, 19, 9, 13, 8, 7, 6].map fun z => Value.int .u8 z).toArray t fr | o => o)
    |>.modify 1 (fun | .cells _ t fr => .cells ([1, 10, 100, 1000, 10000, 100000, 1000000, 10000000, 100000000, 1000000000, 10000000000, 100000000000, 1000000000000, 10000000000000, 100000000000000, 1000000000000000, 10000000000000000, 100000000000000000, 1000000000000000000, 10000000000000000000].map fun z => Value.int .u64 z).toArray t fr | o => o)) }
theorem laid_met (os : Os) (args : Array Value) : laidMet Tryz.prog Rows.shelfShortRow.laid ((laidWorld os).forCall (fun _ _ => 0) ⟨#[], args, []⟩).memory :=
  laidMet_of_run' 8 (by kernel_rfl) (by kernel_rfl)
def wargs : Array Value := #[Value.agg #[.int .i64 0, .slice none 0 0, .slice none 0 0, .slice none 0 0, .int .i64 0, .slice none 0 0, .slice none 0 0, .slice none 0 0], Value.agg #[.int .i64 0, .string ⟨#[]⟩, .string ⟨#[]⟩, .slice none 0 0, .slice none 0 0, .string ⟨#[]⟩, .string ⟨#[]⟩, .int .i64 0, .int .i64 0, .int .i64 0, .bool false, .int .u64 0, .int .i64 0], Value.int .u8 0]
theorem reads (os : Os) {H : Type} (enc : TypeId × Value → H) : ∃ x, DataW.whole enc Tryz.prog ((laidWorld os).forCall (fun _ _ => 0) ⟨#[], wargs, []⟩).memory Tryz.f6.params.toList Rows.shelfShortSpec.vars false wargs.toList 8 = some x :=
  Option.isSome_iff_exists.1 (by kernel_rfl)
theorem lifted (os : Os) (started : os.Started) (H : Type) (enc : TypeId × Value → H) (F : Stop.Interp) :
    ReturnsInHanded {} Tryz.checked os 6 .any ((OpenSpec.ofChange Rows.shelfShortSpec).preRow enc Tryz.prog Tryz.f6 Rows.shelfShortRow.domain false Rows.shelfShortRow.laid) (((OpenSpec.ofChange Rows.shelfShortSpec).at F).post enc Tryz.prog Tryz.f6 false true false false) := by
  obtain ⟨⟨x1, x2, x3⟩, hx⟩ := reads os enc
  refine returnsInHanded_of_row (C := Tryz.checked) (s := OpenSpec.ofChange Rows.shelfShortSpec) own started (by kernel_rfl) Tryz.func6
    (witness_row_at (enc := enc) (C := Tryz.checked) false (laidWorld os) wargs rfl (by kernel_rfl) (by kernel_rfl) (by kernel_rfl)
      (OpenSpec.preRow_of_cond 8 hx rfl (fun k hk => by cases hk) (by kernel_rfl) (laid_met os _))) ?_
  intro W base args ds gs before hval hW _ _ _ hL hsh _
  exact contract H enc W base args ds gs before hval hW hL hsh
set_option maxHeartbeats 4000000 in
theorem facts : joinedFacts Tryz.prog 6 Tryz.f6 (OpenSpec.ofChange Rows.shelfShortSpec).bare Rows.shelfShortRow = true := by
  unfold joinedFacts
  simp only [Bool.and_eq_true]
  repeat' apply And.intro
  all_goals (as_aux_lemma => kernel_rfl)
theorem said : Rows.ShelfShortSaid :=
  OpenClaim.holds_of_cond 6 Tryz.f6 rfl rfl rfl rfl rfl rfl rfl ⟨rfl, rfl, rfl, rfl, rfl⟩ rfl rfl rfl rfl rfl (by kernel_rfl) Tryz.func6 facts
    (of_decide_eq_true (by kernel_rfl)) (by unfold Func.isWrapper; first | (rw [if_pos (by decide +kernel)]; kernel_rfl) | (rw [if_neg (by decide +kernel)]; exact ⟨rfl, rfl⟩))
    (fun os started H enc _ F => by rw [OpenClaim.pre_eq_preRow]; exact lifted os started H enc F)
theorem plain (f : FuncId) (fn : Func) (hf : Tryz.pinned.checked.prog.funcNamed Rows.shelfShortRow.func = some f) (hfn : Tryz.pinned.checked.prog.funcs[f]? = some fn) :
    false = Tryz.pinned.checked.prog.looks [] ∧ ∀ (j : Nat) t, fn.params[j]? = some t → Tryz.pinned.checked.prog.wantsStandIn t = false := by
  obtain rfl : f = 6 := Option.some.inj ((show Tryz.prog.funcNamed Rows.shelfShortRow.func = some 6 by kernel_rfl).symm.trans hf) |>.symm
  obtain rfl : fn = Tryz.f6 := (Option.some.inj (Tryz.func6.symm.trans hfn)).symm
  refine ⟨by kernel_rfl, fun j t ht => ?_⟩
  rw [Tryz.params6] at ht
  have hm := Array.mem_of_getElem? ht
  simp only [List.mem_toArray, List.mem_cons, List.not_mem_nil, or_false] at hm
  rcases hm with rfl | rfl | rfl
  · exact (show Tryz.prog.wantsStandIn 28 = false by kernel_rfl)
  · exact (show Tryz.prog.wantsStandIn 48 = false by kernel_rfl)
  · exact (show Tryz.prog.wantsStandIn 5 = false by kernel_rfl)
/-- The card. -/
theorem card : Rows.ShelfShortCardSaid :=
  Claim7.holds_tied_plain_at .later [] _ _ _ _ said (fun _ h => by cases h) (by kernel_rfl) (fun _ h => by cases h) shelfShort_row_tie rfl ⟨rfl, rfl⟩ (by kernel_rfl) rfl plain (by kernel_rfl)
end Go.Proofs.YthdcblpadgdamaaGreatDoor.shelfShort
