/- Own work: ShelfShort's law on data: it answers yes. -/
import Derived.Test.YthdcblpadgdamaaGreatDoorTpAwake
set_option linter.all false
namespace Go.Proofs
open Go Go.Trw
theorem routerL_less {r : api_Router} (h : few_Router r) (hp : ∀ u ∈ r.Subs, ∀ p ∈ u.D.Where, PV 8 p) : (routerL r).length ≤ 16000000 := by
  have h1 := numL_len h.now
  have h2 := listL_len (f := topicL) (B := 12000) (by omega) h.topics.1 (fun x hx => topicL_len (h.topics.2 x hx).1 (h.topics.2 x hx).2)
  have h3 := listL_len (f := lastL) (B := 90) (by omega) h.lasts.1 (fun x hx => lastL_len (h.lasts.2 x hx))
  have h4 := listL_len (f := subL) (B := 1000000) (by omega) h.subs.1 (fun x hx => subL_len (h.subs.2 x hx).1 (h.subs.2 x hx).2 (hp x hx))
  have h5 := numL_len h.total
  have h6 := listL_len (f := outL) (B := 720) (by omega) h.out.1 (fun x hx => outL_len (h.out.2 x hx))
  have h7 := listL_len (f := outL) (B := 720) (by omega) h.given_.1 (fun x hx => outL_len (h.given_.2 x hx))
  have h8 := listL_len (f := deadL) (B := 1820) (by omega) h.dead.1 (fun x hx => deadL_len (h.dead.2 x hx))
  unfold routerL; simp only [List.length_append]; omega
theorem opL_less {o : api_Op} (h : few_Op o) (hp : opP o) : (opL o).length ≤ 16000000 := by
  have h1 := numL_len h.1.kind
  have h2 := textL_len h.1.s (by omega)
  have h3 := idL_len h.1.id
  have h4 := numL_len h.1.n
  have h5 : (boolL o.Ok).length = 1 := by unfold boolL; split <;> rfl
  have h6 : (if o.Kind = 2 then defL o.D else []).length ≤ 800000 := by
    split
    · exact defL_len h.2.1 h.2.2 (hp.d (by assumption))
    · simp
  unfold opL; simp only [List.length_append]; omega
/-- What is short, or long, is not taken. -/
theorem takeCut {r : api_Router} {k : Nat} (h : (routerL r).length ≤ 16777216) (hr : routerP r) (hk : k < (routerL r).length) : Tot (shelf_Take ((routerL r).take k)) (fun x => x.2 = 2) := by
  refine (shelfTake (by rw [List.length_take]; omega)).mono fun x hx => ?_
  rcases hx with hx | ⟨_, ok, cr, _, e⟩
  · exact hx
  · exfalso
    have e2 : routerL r ++ [] = routerL x.1 ++ (routerL r).drop k := by rw [← e, List.take_append_drop, List.append_nil]
    have := (routerDec r x.1 _ _ hr (cr.routerP ok) e2).2
    have := congrArg List.length this
    simp at this; omega
theorem takeLong {r : api_Router} {b : UInt8} (h : (routerL r).length + 1 ≤ 16777216) (hr : routerP r) : Tot (shelf_Take (routerL r ++ [b])) (fun x => x.2 = 2) := by
  refine (shelfTake (by simp; omega)).mono fun x hx => ?_
  rcases hx with hx | ⟨_, ok, cr, _, e⟩
  · exact hx
  · exfalso
    have e2 : routerL r ++ [b] = routerL x.1 ++ [] := by rw [e, List.append_nil]
    have := (routerDec r x.1 _ _ hr (cr.routerP ok) e2).2
    cases this
theorem takeOpCut {o : api_Op} {k : Nat} (h : (opL o).length ≤ 16777216) (hr : opP o) (hk : k < (opL o).length) : Tot (shelf_TakeOp ((opL o).take k)) (fun x => x.2 = 2) := by
  refine (shelfTakeOp (by rw [List.length_take]; omega)).mono fun x hx => ?_
  rcases hx with hx | ⟨_, ok, co, _, e⟩
  · exact hx
  · exfalso
    have e2 : opL o ++ [] = opL x.1 ++ (opL o).drop k := by rw [← e, List.take_append_drop, List.append_nil]
    have := (opDec o x.1 _ _ hr (co.opP ok) e2).2
    have := congrArg List.length this
    simp at this; omega
theorem takeOpLong {o : api_Op} {b : UInt8} (h : (opL o).length + 1 ≤ 16777216) (hr : opP o) : Tot (shelf_TakeOp (opL o ++ [b])) (fun x => x.2 = 2) := by
  refine (shelfTakeOp (by simp; omega)).mono fun x hx => ?_
  rcases hx with hx | ⟨_, ok, co, _, e⟩
  · exact hx
  · exfalso
    have e2 : opL o ++ [b] = opL x.1 ++ [] := by rw [e, List.append_nil]
    have := (opDec o x.1 _ _ hr (co.opP ok) e2).2
    cases this
theorem shelfShortTot {N M : Nat} {a0 : api_Router} {a1 : api_Op} {a2 : Int} (h0 : ok_Router N a0) (h1 : ok_Op M a1) (h2 : inK .u8 a2) : Tot (trystlaw20_ShelfShort a0 a1 a2) (fun b => b = true) := by
  have ha2 : 0 ≤ a2 ∧ a2 ≤ 255 := by
    simpa [inK, IntKind.min, IntKind.max, IntKind.signed, IntKind.bits] using h2
  unfold trystlaw20_ShelfShort
  refine Tot.bind ((law16Few h0).mono fun x1 f1 => ?_)
  refine Tot.bind ((law20Cut h1).mono fun x3 f3 => ?_)
  refine Tot.bind ((shelfLay f1).mono fun x5 h5 => ?_)
  obtain ⟨s1, s2, s3⟩ := h5
  obtain ⟨m, hm, hm1⟩ : ∃ m : Nat, IntKind.i64.wrap ((1 : Int) + (IntKind.i64.wrap (Int.tmod a2 (30 : Int)))) = (m : Int) ∧ 1 ≤ m := by
    have : Int.tmod a2 30 = a2 % 30 := Int.tmod_eq_emod_of_nonneg ha2.1
    rw [this, wrap64 (n := a2 % 30) (by omega) (by omega), wrap64 (by omega) (by omega)]
    exact ⟨(1 + a2 % 30).toNat, by omega, by omega⟩
  rw [hm]
  refine Tot.cut (fun e => e = Sum.inr ()) (Tot.ite (fun c => ?_) fun _ => Tot.ret rfl) ?_
  · have c2 : x5.2 = 0 ∧ (m : Int) ≤ (x5.1.length : Int) := by simpa using c
    obtain ⟨e1, e2⟩ := s2 c2.1
    have hl := c2.2
    rw [e2] at hl ⊢
    have hrp := e1.routerP f1.ok
    have hlen := routerL_less f1 (fun u hu p hp => ((e1 u hu).1 p hp).pv)
    have hw : IntKind.i64.wrap (((routerL x1).length : Int) - (m : Int)) = (((routerL x1).length - m : Nat) : Int) := by rw [wrap64 (by omega) (by omega)]; omega
    rw [hw, Int.toNat_natCast]
    refine Tot.gd (by omega) fun _ => ?_
    refine Tot.bind ((takeCut (by omega) hrp (by omega)).mono fun x52 h52 => ?_)
    refine Tot.gd (by show _ ≤ 9223372036854775807; simp; omega) fun _ => ?_
    refine Tot.bind ((takeLong (by omega) hrp).mono fun x55 h55 => ?_)
    exact Tot.ite (fun c => by rw [h52, h55] at c; simp at c) fun _ => Tot.ret rfl
  rintro _ rfl
  dsimp only
  refine Tot.bind ((shelfLayOp f3).mono fun x26 h26 => ?_)
  obtain ⟨t1, t2, t3⟩ := h26
  refine Tot.ite (fun c => ?_) fun c => ?_
  · have hx : x26.2 = 1 := by
      rcases t1 with k | k
      · exfalso
        obtain ⟨e1, e2⟩ := t2 k
        have hp := numL_pos x3.Kind
        rw [k, e2] at c
        have c3 : opL x3 = [] := by simpa using c
        have := congrArg List.length c3
        unfold opL at this; rw [List.length_append, List.length_nil] at this; omega
      · exact k
    rw [hx]
    exact Tot.bind (Tot.ite (fun _ => awake20.mono fun b hb => Tot.ret (by rw [hb]; rfl)) fun c => absurd rfl c)
  · have c2 : x26.2 = 0 ∧ x26.1 ≠ [] := by simpa using c
    obtain ⟨e1, e2⟩ := t2 c2.1
    have hne := c2.2
    rw [e2] at hne ⊢
    have hop := e1.opP f3.1
    have hlen := opL_less f3 hop
    have hpos : 0 < (opL x3).length := List.length_pos_iff.2 hne
    have hw : IntKind.i64.wrap (((opL x3).length : Int) - 1) = (((opL x3).length - 1 : Nat) : Int) := by rw [wrap64 (by omega) (by omega)]; omega
    rw [hw, Int.toNat_natCast]
    refine Tot.gd (by omega) fun _ => ?_
    refine Tot.bind ((takeOpCut (by omega) hop (by omega)).mono fun x37 h37 => ?_)
    refine Tot.gd (by show _ ≤ 9223372036854775807; simp; omega) fun _ => ?_
    refine Tot.bind ((takeOpLong (by omega) hop).mono fun x40 h40 => ?_)
    rw [h37, h40]
    exact Tot.bind (Tot.ite (fun _ => awake20.mono fun b hb => Tot.ret (by rw [hb]; rfl)) fun c => absurd rfl c)
end Go.Proofs
