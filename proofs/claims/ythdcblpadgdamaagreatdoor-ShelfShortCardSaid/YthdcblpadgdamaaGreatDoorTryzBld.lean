/- Own work: strings.Builder, wherever it lies at a block's beginning: its methods' contracts at this program. -/
import Derived.Test.YthdcblpadgdamaaGreatDoorTryzBase
import Derived.Shelf.Strings.Builder1
set_option linter.all false
namespace Go.Proofs
open Go Go.RowKit
/-- A block that may hold a builder at its beginning. -/
def BldT (T : Nat) : Prop := liesAt Tryz.prog Tryz.prog.depth T (2 / Tryz.prog.cellsOf T) 0 77 1 = true
set_option maxHeartbeats 1000000 in
set_option maxRecDepth 100000 in
theorem Bl.copyCheck_used (b : Nat) (w : World) (h0 : w.cell? ⟨b, 0, none⟩ = some (.pointer (some ⟨b, 0, none⟩))) :
    Calls Tryz.prog 192 #[.pointer (some ⟨b, 0, none⟩)] w fun e w' => e = .returned (.tuple #[]) ∧ w' = w := by
  have hsz : (Tryz.prog.info? 77).map (·.size) = some 2 := by kernel_rfl
  obtain ⟨j, hj, _⟩ := Option.map_eq_some_iff.1 hsz
  go_enter Tryz.func192, Tryz.ntmps192
  go_wp2
  rw [Lib.run_neq_ptr_same w _ Tryz.underlying74 hj]
  go_wp2
  go_end0
  exact ⟨rfl, rfl⟩
set_option maxHeartbeats 1000000 in
set_option maxRecDepth 100000 in
theorem Bl.copyCheck_fresh {T : Nat} (hT : BldT T) (b : Nat) (w : World) (h0 : w.cell? ⟨b, 0, none⟩ = some (.pointer none)) (hsh : w.shape? b = some (T, 2)) (hfz : w.frozen? ⟨b, 0, none⟩ = false) :
    Calls Tryz.prog 192 #[.pointer (some ⟨b, 0, none⟩)] w fun e w' => e = .returned (.tuple #[]) ∧ w' = w.setCell ⟨b, 0, none⟩ (.pointer (some ⟨b, 0, none⟩)) := by
  have hsz : (Tryz.prog.info? 77).map (·.size) = some 2 := by kernel_rfl
  obtain ⟨j, hj, hjs⟩ := Option.map_eq_some_iff.1 hsz
  go_enter Tryz.func192, Tryz.ntmps192
  go_wp2
  rw [Lib.run_to_unsafe w ⟨b, 0, none⟩ Tryz.underlying74 Tryz.underlying278 hj (by rw [hjs]; decide) hsh (Nat.zero_lt_succ 1)]
  simp only [Result.andThen]
  rw [Oper.upon_value]
  go_wp2
  rw [run_callFunc_extern Tryz.func209 (by kernel_rfl) (by kernel_rfl) (by kernel_rfl) (e := Extern.AbiNoEscape.same) (by kernel_rfl)]
  rw [Lib.run_noEscape]
  simp only [Result.andThen]
  rw [Oper.upon_value]
  go_wp2
  rw [Lib.run_from_unsafe w ⟨b, 0, none⟩ Tryz.underlying278 Tryz.underlying74 hj hsh hT]
  simp only [Result.andThen]
  rw [Oper.upon_value]
  go_wp2
  go_end0
  exact ⟨rfl, rfl⟩
theorem Bl.fut_setCell {w : World} {b o : Nat} {v : Value} : Trw.Fut (fun x => x = b) w (w.setCell ⟨b, o, none⟩ v) :=
  ⟨rfl, rfl, rfl, by simp [World.setCell], fun x hx hne => by
    have : ¬ b = x := fun k => hne k.symm
    simp [World.setCell, Array.getElem?_modify, this]⟩
theorem Bl.copyCheck {T : Nat} (hT : BldT T) (b : Nat) (bs : List Value) (w : World) (h : Lib.IsBuilder T 5 0 b bs w) :
    Calls Tryz.prog 192 #[.pointer (some ⟨b, 0, none⟩)] w fun e w' => e = .returned (.tuple #[]) ∧ Lib.BuilderAt T 5 0 b (.pointer (some ⟨b, 0, none⟩)) bs w' ∧ Trw.Fut (fun x => x = b) w w' ∧ w'.heap.size = w.heap.size ∧ (∀ p v, w.heap[b]? = some (.cells #[p, v] T (0, 0)) → w'.heap[b]? = some (.cells #[.pointer (some ⟨b, 0, none⟩), v] T (0, 0))) := by
  rcases h with h | h
  · refine (Bl.copyCheck_fresh hT b w h.cell0 h.shape h.frozen0).mono ?_
    rintro e w' ⟨rfl, rfl⟩
    refine ⟨rfl, h.used _, Bl.fut_setCell, by simp [World.setCell], fun p v hb => ?_⟩
    have hlt : b < w.heap.size := h.lt
    simp [World.setCell, Array.getElem?_modify, hb]
  · refine (Bl.copyCheck_used b w h.cell0).mono ?_
    rintro e w' ⟨rfl, rfl⟩
    refine ⟨rfl, h, Trw.Fut.refl _ _, rfl, fun p v hb => ?_⟩
    obtain ⟨_, v', hb', _⟩ := h
    rw [hb'] at hb
    cases hb
    exact hb'
/-- What an append of a text to a row of bytes of the call's own does, and where what comes out lies. -/
theorem Bl.run_append {P : Program} {w : World} {t u e ty : TypeId} {i : TypeInfo} (ht : P.underlying t = some (.slice e)) (hu : P.underlying u = some .string) (hi : P.info? e = some i) (hz : i.zero = some (.int .u8 0)) (hsize : i.size = 1) (hby : i.bytes = 1)
    {v : Value} {n : Nat} {xs : List Value} (hown : w.ownsRow 0 e 1 v n xs) (s : ByteArray) (hb : n + s.size ≤ 140737488355328) :
    ∃ v' w', (Builtin.append_ #[t, u] ty #[v, .string s]).run P w = .ok v' w' ∧ w'.ownsRow 0 e 1 v' (n + s.size) (xs ++ Lib.strCells s) ∧ w.grownBy w' v.ownBlock ∧ (∀ k, v'.ownBlock = some k → v.ownBlock = some k ∨ w.heap.size ≤ k) := by
  have hmx : n + s.size ≤ maxLen := Nat.le_trans hb (by decide)
  obtain ⟨v', w', hr, h1, h2, h3⟩ := Lib.run_append_own_string (P := P) w 0 t u ty e i ht hu hi hz hsize hby v n xs hown s hmx hb (Nat.zero_le _)
  refine ⟨v', w', hr, h1, h2, fun k hk => ?_⟩
  rcases hown.2 with ⟨rfl, rfl⟩ | ⟨g, cap, cur, rfl, _, hg, hnc, hcm, hcs, htake⟩
  · by_cases hm : s.size = 0
    · have := h3.2 ⟨rfl, hm⟩
      subst this
      simp [Value.ownBlock] at hk
    · have hr2 := Go.run_append_nil_string (P := P) w t u ty e i (.int .u8 0) ht hu hi hz s (by omega) (by simp only [maxLen] at hmx; omega) (by rw [hby]; omega)
      rw [hr2] at hr
      cases hr
      simp [Value.ownBlock] at hk
      right; omega
  · by_cases hroom : n + s.size ≤ cap
    · have hr2 := Lib.run_append_room_string (P := P) w t u ty e i ht hu hi hsize g n cap cur hg s hroom (by rw [hcs, Nat.mul_one]; exact hroom)
      rw [hr2] at hr
      cases hr
      left; simpa [Value.ownBlock] using hk
    · have holds : ∀ j u, xs[j]? = some u → w.cell? ((⟨g, 0, none⟩ : Addr).add j) = some u := hown.cells (g := g) rfl
      have hr2 := Lib.run_append_grow_string (P := P) w t u ty e i (.int .u8 0) ht hu hi hz ⟨g, 0, none⟩ n cap xs (by rw [hsize]; exact hown.1) holds s (by omega) (by simp only [maxLen] at hmx; omega) (by rw [hby]; exact growslice_fits (by omega) (by omega))
      rw [hr2] at hr
      cases hr
      simp [Value.ownBlock] at hk
      right; omega
theorem Bl.wp_append {P : Program} {ops : Array Oper} {rest : List Oper} {o : Oper} {a : Act} {Q : Exit → Act → World → Prop} {w : World} (hgd : o.guard = none) (sl x : Operand) (t u : TypeId)
    (ho : o.op = .call { callee := .builtin .append, args := #[sl, x], argTypes := #[t, u] }) (e : TypeId) (i : TypeInfo) (ht : P.underlying t = some (.slice e)) (hu : P.underlying u = some .string) (hi : P.info? e = some i) (hz : i.zero = some (.int .u8 0))
    (hsize : i.size = 1) (hby : i.bytes = 1) (v : Value) (n : Nat) (xs : List Value) (hs : a.eval sl = v) (hown : w.ownsRow 0 e 1 v n xs) (s : ByteArray) (hx : a.eval x = .string s) (hbytes : n + s.size ≤ 140737488355328)
    (h : ∀ v' w', w'.ownsRow 0 e 1 v' (n + s.size) (xs ++ Lib.strCells s) → w.grownBy w' v.ownBlock → (∀ k, v'.ownBlock = some k → v.ownBlock = some k ∨ w.heap.size ≤ k) → Go.wpList P ops Q rest (a.put o.dst v') w') : Go.wpList P ops Q (o :: rest) a w := by
  refine wpList_plain hgd fun K hK => ?_
  obtain ⟨v', w', hr, h2, h3, h4⟩ := Bl.run_append (P := P) (w := w) (ty := o.type) ht hu hi hz hsize hby hown s hbytes
  unfold Oper.wp execOp
  simp only [ho, resolve, invoke, builtin, Sem.run_bind, Sem.run_pure, Result.andThen_ok, List.map_toArray, List.map_cons, List.map_nil, hs, hx, hr]
  exact hK _ _ (h v' w' h2 h3 h4)
theorem Bl.wp_append1 {P : Program} {ops : Array Oper} {rest : List Oper} {o : Oper} {a : Act} {Q : Exit → Act → World → Prop} {w : World} (hgd : o.guard = none) (sl x : Operand) (t : TypeId)
    (ho : o.op = .call { callee := .builtin .append, args := #[sl, x], argTypes := #[t, t] }) (e : TypeId) (i : TypeInfo) (ht : P.underlying t = some (.slice e)) (hi : P.info? e = some i) (hz : i.zero = some (.int .u8 0))
    (hsize : i.size = 1) (hby : i.bytes = 1) (v : Value) (n : Nat) (xs : List Value) (hs : a.eval sl = v) (hown : w.ownsRow 0 e 1 v n xs) (p : Addr) (c : Nat) (u : Value) (hp : p.spot = none) (hx : a.eval x = .slice (some p) 1 c) (hc : w.cell? p = some u) (hu : u.oneCell' = true) (hb : n + 1 ≤ 16777216)
    (h : ∀ v' w', w'.ownsRow 0 e 1 v' (n + 1) (xs ++ [u]) → w.grownBy w' v.ownBlock → (∀ k, v'.ownBlock = some k → v.ownBlock = some k ∨ w.heap.size ≤ k) → Go.wpList P ops Q rest (a.put o.dst v') w') : Go.wpList P ops Q (o :: rest) a w := by
  refine wpList_plain hgd fun K hK => ?_
  obtain ⟨b, off, q⟩ := p
  simp only at hp
  subst hp
  have hcv : Trw.cellv u = true := by cases u <;> simp_all [Trw.cellv, Value.oneCell']
  obtain ⟨v', w', hr, h2, h3, h4⟩ := Trw.run_append_1 (P := P) (ty := o.type) (c := c) (m := 1) (news := [u]) ht hi hz hsize (show (Value.int .u8 0).cells.size = 1 from rfl) Nat.zero_lt_one hown Nat.zero_lt_one (by simp) (fun j hj => by
    have : j = 0 := by simpa using hj
    subst this; simpa using hc) (by simpa using hcv) hb (by rw [hby]; decide)
  unfold Oper.wp execOp
  simp only [ho, resolve, invoke, builtin, Sem.run_bind, Sem.run_pure, Result.andThen_ok, List.map_toArray, List.map_cons, List.map_nil, hs, hx, hr]
  exact hK _ _ (h v' w' h2 h3 h4)
/-- What a write leaves. -/
structure Wrote (T b : Nat) (v : Value) (bs : List Value) (w w' : World) : Prop where
  ex : ∃ v', w'.heap[b]? = some (.cells #[.pointer (some ⟨b, 0, none⟩), v'] T (0, 0)) ∧ w'.ownsRow 0 5 1 v' bs.length bs ∧ v'.ownBlock ≠ some b ∧ (∀ k, v'.ownBlock = some k → v.ownBlock = some k ∨ w.heap.size ≤ k)
  fut : Trw.Fut (fun x => x = b ∨ v.ownBlock = some x) w w'
set_option maxHeartbeats 2000000 in
set_option maxRecDepth 100000 in
theorem Bl.writeString {T : Nat} (hT : BldT T) (hT5 : T ≠ 5) (b : Nat) (bs : List Value) (s : ByteArray) (w : World) (h : Lib.IsBuilder T 5 0 b bs w) (v : Value) (hv : ∃ p, w.heap[b]? = some (.cells #[p, v] T (0, 0))) (hlen : bs.length + s.size ≤ 140737488355328) :
    Calls Tryz.prog 153 #[.pointer (some ⟨b, 0, none⟩), .string s] w fun e w' => e = .returned (.tuple #[.int .i64 s.size, .nilIface]) ∧ Wrote T b v (bs ++ Lib.strCells s) w w' := by
  obtain ⟨p0, hv⟩ := hv
  have hib : (Tryz.prog.info? 5).map (fun i => (i.zero, i.size, i.bytes)) = some (some (.int .u8 0), 1, 1) := by kernel_rfl
  obtain ⟨i0, hi, hz0, hz1, hz2⟩ := info_parts hib
  go_enter Tryz.func153, Tryz.ntmps153
  go_wp2_with (go_at_call 192; refine (Bl.copyCheck hT b bs _ h).mono ?_)
  rintro e w1 ⟨rfl, h1, hb1, hsz1, hkeep⟩
  have hbk0 := hkeep _ _ hv
  have hsz2 : w.heap.size ≤ w1.heap.size := Nat.le_of_eq hsz1.symm
  clear hsz1
  obtain ⟨hB, v', hbk, hown, hne⟩ := h1
  rw [hbk0] at hbk
  cases hbk
  have hbk := hbk0
  have c0 : w1.cell? ⟨b, 0, none⟩ = some (.pointer (some ⟨b, 0, none⟩)) := by rw [Lib.cell_of_heap hbk]; rfl
  have c1 : w1.cell? ⟨b, 1, none⟩ = some v := by rw [Lib.cell_of_heap hbk]; rfl
  go_wp2_with (at_builtin; refine Bl.wp_append rfl _ _ 75 9 rfl 5 i0 Tryz.underlying75 Tryz.underlying9 hi hz0 hz1 hz2 _ _ _ rfl hown s rfl ?c4 ?_)
  case c4 => omega
  intro v' w2 hown' hgrow hblk
  have hlt : b < w1.heap.size := by
    rcases Nat.lt_or_ge b w1.heap.size with h' | h'
    · exact h'
    · simp [Array.getElem?_eq_none h'] at hbk
  have hb2 : w2.heap[b]? = some (.cells #[.pointer (some ⟨b, 0, none⟩), v] T (0, 0)) := by
    rw [hgrow.block b hlt (fun e => hne e.symm)]
    exact hbk
  have d0 : w2.cell? ⟨b, 0, none⟩ = some (.pointer (some ⟨b, 0, none⟩)) := by rw [Lib.cell_of_heap hb2]; rfl
  have d1 : w2.cell? ⟨b, 1, none⟩ = some v := by rw [Lib.cell_of_heap hb2]; rfl
  have f1 : w2.frozen? ⟨b, 1, none⟩ = false := Lib.frozen_of_heap hb2 1
  obtain ⟨ao, n', cap, rfl⟩ : ∃ ao n' cap, v' = .slice ao n' cap := by
    rcases hown'.2 with ⟨hv, _⟩ | ⟨g, cap, cur, hv, _⟩
    · exact ⟨_, _, _, hv⟩
    · exact ⟨_, _, _, hv⟩
  go_wp2
  go_ret2
  have hneb : (Value.slice ao n' cap).ownBlock ≠ some b := by
    intro hk
    rcases hblk b hk with h | h
    · exact hne h
    · (try simp only [World.alloc, Array.size_push] at h); omega
  have hw3 : (w2.setCell ⟨b, 1, none⟩ (.slice ao n' cap)).heap[b]? = some (.cells #[.pointer (some ⟨b, 0, none⟩), .slice ao n' cap] T (0, 0)) := by
    simp [World.setCell, Array.getElem?_modify, hb2]
  refine ⟨rfl, ⟨.slice ao n' cap, hw3, ?_, hneb, fun k hk => ?_⟩, ?_⟩
  · rw [show (bs ++ Lib.strCells s).length = bs.length + s.size by simp [Lib.strCells_length]]
    exact hown'.kept (row := some b) ⟨rfl, rfl, rfl, by simp [World.setCell], fun k _ hk => Below.heap_setCell _ _ _ _ (fun e => hk (by simp [e]))⟩ (Or.inr hneb)
  · rcases hblk k hk with h | h
    · exact .inl h
    · right; (try simp only [World.alloc, Array.size_push] at h); omega
  · have f1 : Trw.Fut (fun x => x = b ∨ v.ownBlock = some x) w w1 := hb1.mono fun x _ h => .inl h
    have f2 : Trw.Fut (fun x => x = b ∨ v.ownBlock = some x) w1 w2 := ⟨hgrow.os, hgrow.tape, hgrow.output, hgrow.size, fun x hx hn => hgrow.block x hx fun e => hn (.inr e.symm)⟩
    exact (f1.trans f2 (fun _ _ k => k) (fun _ _ k => k)).trans (Bl.fut_setCell (v := .slice ao n' cap) (o := 1)) (fun _ _ k => k) (fun _ _ k => .inl k)
set_option maxHeartbeats 2000000 in
set_option maxRecDepth 100000 in
theorem Bl.writeByte {T : Nat} (hT : BldT T) (hT5 : T ≠ 5) (b : Nat) (bs : List Value) (c : Int) (w : World) (h : Lib.IsBuilder T 5 0 b bs w) (v : Value) (hv : ∃ p, w.heap[b]? = some (.cells #[p, v] T (0, 0))) (hlen : bs.length + 1 ≤ 16777216) :
    Calls Tryz.prog 154 #[.pointer (some ⟨b, 0, none⟩), .int .u8 c] w fun e w' => e = .returned .nilIface ∧ Wrote T b v (bs ++ [.int .u8 c]) w w' := by
  obtain ⟨p0, hv⟩ := hv
  have hib : (Tryz.prog.info? 5).map (fun i => (i.zero, i.size, i.bytes)) = some (some (.int .u8 0), 1, 1) := by kernel_rfl
  obtain ⟨i0, hi, hz0, hz1, hz2⟩ := info_parts hib
  go_enter Tryz.func154, Tryz.ntmps154
  go_wp2_with (go_at_call 192; refine (Bl.copyCheck hT b bs _ h).mono ?_)
  rintro e w1 ⟨rfl, h1, hb1, hsz1, hkeep⟩
  have hbk0 := hkeep _ _ hv
  have hsz2 : w.heap.size ≤ w1.heap.size := Nat.le_of_eq hsz1.symm
  clear hsz1
  obtain ⟨hB, v', hbk, hown, hne⟩ := h1
  rw [hbk0] at hbk
  cases hbk
  have hbk := hbk0
  have c0 : w1.cell? ⟨b, 0, none⟩ = some (.pointer (some ⟨b, 0, none⟩)) := by rw [Lib.cell_of_heap hbk]; rfl
  have c1 : w1.cell? ⟨b, 1, none⟩ = some v := by rw [Lib.cell_of_heap hbk]; rfl
  go_wp2_with (at_builtin; refine Bl.wp_append1 rfl _ _ 75 rfl 5 i0 Tryz.underlying75 hi hz0 hz1 hz2 _ _ _ rfl (hown.alloc _) ⟨w1.heap.size, 0, none⟩ 1 (.int .u8 c) rfl rfl ?c1 rfl ?c4 ?_)
  case c1 => simp [Addr.add]
  case c4 => omega
  intro v' w2 hown' hgrow hblk
  have hlt : b < w1.heap.size := by
    rcases Nat.lt_or_ge b w1.heap.size with h' | h'
    · exact h'
    · simp [Array.getElem?_eq_none h'] at hbk
  have hb2 : w2.heap[b]? = some (.cells #[.pointer (some ⟨b, 0, none⟩), v] T (0, 0)) := by
    rw [hgrow.block b (by simp; omega) (fun e => hne e.symm), Lib.alloc_old w1 _ b hlt]
    exact hbk
  have d0 : w2.cell? ⟨b, 0, none⟩ = some (.pointer (some ⟨b, 0, none⟩)) := by rw [Lib.cell_of_heap hb2]; rfl
  have d1 : w2.cell? ⟨b, 1, none⟩ = some v := by rw [Lib.cell_of_heap hb2]; rfl
  have f1 : w2.frozen? ⟨b, 1, none⟩ = false := Lib.frozen_of_heap hb2 1
  obtain ⟨ao, n', cap, rfl⟩ : ∃ ao n' cap, v' = .slice ao n' cap := by
    rcases hown'.2 with ⟨hv, _⟩ | ⟨g, cap, cur, hv, _⟩
    · exact ⟨_, _, _, hv⟩
    · exact ⟨_, _, _, hv⟩
  go_wp2
  go_ret
  have hneb : (Value.slice ao n' cap).ownBlock ≠ some b := by
    intro hk
    rcases hblk b hk with h | h
    · exact hne h
    · (try simp only [World.alloc, Array.size_push] at h); omega
  have hw3 : (w2.setCell ⟨b, 1, none⟩ (.slice ao n' cap)).heap[b]? = some (.cells #[.pointer (some ⟨b, 0, none⟩), .slice ao n' cap] T (0, 0)) := by
    simp [World.setCell, Array.getElem?_modify, hb2]
  refine ⟨rfl, ⟨.slice ao n' cap, hw3, ?_, hneb, fun k hk => ?_⟩, ?_⟩
  · rw [show (bs ++ [Value.int .u8 c]).length = bs.length + 1 by simp]
    exact hown'.kept (row := some b) ⟨rfl, rfl, rfl, by simp [World.setCell], fun k _ hk => Below.heap_setCell _ _ _ _ (fun e => hk (by simp [e]))⟩ (Or.inr hneb)
  · rcases hblk k hk with h | h
    · exact .inl h
    · right; (try simp only [World.alloc, Array.size_push] at h); omega
  · have f1 : Trw.Fut (fun x => x = b ∨ v.ownBlock = some x) w w1 := hb1.mono fun x _ h => .inl h
    have f2 : Trw.Fut (fun x => x = b ∨ v.ownBlock = some x) w1 w2 := ⟨hgrow.os, hgrow.tape, hgrow.output, Nat.le_trans (by simp) hgrow.size, fun x hx hn => (hgrow.block x (by simp; omega) fun e => hn (.inr e.symm)).trans (Lib.alloc_old w1 _ x hx)⟩
    exact (f1.trans f2 (fun _ _ k => k) (fun _ _ k => k)).trans (Bl.fut_setCell (v := .slice ao n' cap) (o := 1)) (fun _ _ k => k) (fun _ _ k => .inl k)
theorem Bl.fut_freeze (w : World) (g n : Nat) {cap m : Nat} : Trw.Fut (fun x => (Value.slice (some ⟨g, 0, none⟩) m cap).ownBlock = some x) w (w.drew.freeze ⟨g, 0, none⟩ n) := by
  have h : ∀ b, b ≠ g → (w.drew.freeze ⟨g, 0, none⟩ n).heap[b]? = w.heap[b]? := by
    intro b hb
    have hne : ¬ g = b := fun e => hb e.symm
    unfold World.freeze
    split
    · rfl
    · simp [Array.getElem?_modify, hne]; rfl
  refine ⟨?_, ?_, ?_, ?_, fun x hx hn => h x fun e => hn (by simp [Value.ownBlock, e])⟩
  · unfold World.freeze; split <;> rfl
  · unfold World.freeze; split <;> rfl
  · unfold World.freeze; split <;> rfl
  · unfold World.freeze; split <;> simp
set_option maxHeartbeats 1000000 in
set_option maxRecDepth 100000 in
theorem Bl.string {T : Nat} (b : Nat) (l : List UInt8) (w : World) (p v : Value) (hbk : w.heap[b]? = some (.cells #[p, v] T (0, 0))) (hown : w.ownsRow 0 5 1 v l.length (Lib.byteCells l)) (h0 : l ≠ []) :
    Calls Tryz.prog 27 #[.pointer (some ⟨b, 0, none⟩)] w fun e w' => e = .returned (.string ⟨l.toArray⟩) ∧ Trw.Fut (fun x => v.ownBlock = some x) w w' := by
  have hl0 : l.length ≠ 0 := by simpa using h0
  obtain ⟨g, cap, cur, rfl, hbg, hg, hnc, hcm, hcs, htake⟩ : ∃ g cap cur, v = .slice (some ⟨g, 0, none⟩) l.length cap ∧ 0 ≤ g ∧ w.heap[g]? = some (.cells cur 5 (0, 0)) ∧ l.length ≤ cap ∧ cap ≤ maxLen ∧ cur.size = cap * 1 ∧ cur.toList.take (l.length * 1) = Lib.byteCells l := by
    rcases hown.2 with ⟨_, hz⟩ | ⟨g, cap, cur, hv, r⟩
    · exact absurd hz hl0
    · exact ⟨g, cap, cur, hv, r⟩
  have c1 : w.drew.cell? ⟨b, 1, none⟩ = some (.slice (some ⟨g, 0, none⟩) l.length cap) := by
    have : w.drew.heap[b]? = some (.cells #[p, .slice (some ⟨g, 0, none⟩) l.length cap] T (0, 0)) := hbk
    rw [Lib.cell_of_heap this]; rfl
  have hSD : (Builtin.unsafeSliceData_ #[75] 143 #[.slice (some ⟨g, 0, none⟩) l.length cap]).run Tryz.prog w.drew = .ok (.pointer (some ⟨g, 0, none⟩)) w.drew :=
    Lib.run_unsafeSliceData_row _ _ _ _ _ _ (by omega)
  have hcb : Tryz.prog.cellsOf 5 = 1 := by kernel_rfl
  have hUS : (Builtin.unsafeString_ #[143, 3] 9 #[.pointer (some ⟨g, 0, none⟩), .int .i64 l.length]).run Tryz.prog w.drew = .ok (.string ⟨l.toArray⟩) (w.drew.freeze ⟨g, 0, none⟩ l.length) := by
    refine Lib.run_unsafeString_row w.drew 143 3 9 5 Tryz.underlying143 hcb g cur.size (by have hg' : w.drew.heap[g]? = some (.cells cur 5 (0, 0)) := hg; simp [World.shape?, hg']) l h0 (by omega) (by unfold maxLen at hcm; omega) ?_
    intro j x hx
    have := hown.cells (g := g) rfl j (.int .u8 x.toNat) (by simp [Lib.byteCells, hx])
    exact this
  go_enter Tryz.func27, Tryz.ntmps27
  go_wp2
  go_region
  all_goals (go_wp2; go_ret; exact ⟨rfl, Bl.fut_freeze w g l.length⟩)
/-! ### As contracts of the calculus -/
open Go.Trw
/-- A builder, and what it holds. -/
def BldAt (φ : Value → Prop) (T : Nat) (l : Str) : OEnt where
  holds _ v B S w := ∃ b p sv, v = .pointer (some ⟨b, 0, none⟩) ∧ φ v ∧ B b ∧ w.heap[b]? = some (.cells #[p, sv] T (0, 0)) ∧ (p = .pointer none ∨ p = .pointer (some ⟨b, 0, none⟩)) ∧ w.ownsRow 0 5 1 sv (Lib.byteCells l).length (Lib.byteCells l) ∧ sv.ownBlock ≠ some b ∧ (∀ k, sv.ownBlock = some k → B k)
  stable := fun {_ _ v B S S' w w'} _ ⟨b, p, sv, h1, h0, h2, h3, h4, h5, h6, h7⟩ hb hl => ⟨b, p, sv, h1, h0, h2, (hb b h2).trans h3, h4, by
    refine ⟨h5.1, h5.2.imp id ?_⟩
    rintro ⟨g, cap, cur, rfl, k1, k2, k3⟩
    exact ⟨g, cap, cur, rfl, k1, (hb g (h7 g rfl)).trans k2, k3⟩, h6, h7⟩
abbrev Bld (T : Nat) (l : Str) : OEnt := BldAt Any T l
theorem _root_.Go.Trw.KeepsO.bld {ks : List Nat} {φ : Value → Prop} {T : Nat} {l : Str} : KeepsO ks (BldAt φ T l) := fun _ _ _ _ _ h => h
theorem _root_.Go.Trw.RenO.bld {σ : List (Nat × Nat)} {φ : Value → Prop} {T : Nat} {l : Str} : RenO σ (BldAt φ T l) (BldAt φ T l) := fun _ _ _ _ _ h => h
theorem _root_.Go.Trw.Pin.bld {gs : Nat → Option Value} {i T : Nat} {l : Str} {Ω Ω' : Omg} (h : Pin gs Ω Ω') : Pin gs ((i, Bld T l) :: Ω) ((i, BldAt (IsV (gs i)) T l) :: Ω') :=
  .cons (fun g v B S w hg ⟨b, p, sv, h1, h0, h2⟩ => ⟨b, p, sv, h1, hg, h2⟩) (fun g v B S w ⟨b, p, sv, h1, h0, h2⟩ => ⟨h0, b, p, sv, h1, trivial, h2⟩) h
theorem _root_.Go.Trw.PinI.bld {gs0 : Nat → Option Value} {Ω : Omg} {i T : Nat} {l : Str} {e : OEnt} {Ωi : Omg} (h : Ω.lookup i = some (BldAt (IsV (gs0 i)) T l)) (k : PinI gs0 Ω Ωi) : PinI gs0 Ω ((i, e) :: Ωi) :=
  .cons h (fun _ _ _ _ _ ⟨_, _, _, _, h0, _⟩ => h0) k
theorem _root_.Go.Trw.OutO.bld {Ω : Omg} {i T : Nat} {φ : Value → Prop} {l : Str} {Ωo : Omg} (h : Ω.lookup i = some (BldAt φ T l)) (k : OutO Ω Ωo) : OutO Ω ((i, Bld T l) :: Ωo) :=
  .cons h (fun _ _ _ _ _ ⟨b, p, sv, h1, h0, h2⟩ => ⟨b, p, sv, h1, trivial, h2⟩) k
theorem _root_.Go.Trw.Pass.bld {Ω : Omg} {i i' T : Nat} {l l' : Str} {φ : Value → Prop} {σ : List (Nat × Nat)} {Ωi Ωo Ωn : Omg} (hi : Ω.lookup i = some (BldAt φ T l)) (h : Pass Ω σ Ωi Ωo Ωn) :
    Pass Ω ((i', i) :: σ) ((i', Bld T l) :: Ωi) ((i', Bld T l') :: Ωo) ((i, BldAt φ T l') :: Ωn) :=
  .cons hi (fun _ _ v B S w ⟨b, p, sv, h1, h0, h2⟩ => ⟨b, p, sv, h1, trivial, h2⟩) (fun _ _ _ v B S w B' S' w' ⟨_, _, _, e1, h0, _⟩ ⟨b, p, sv, h1, _, h2⟩ => ⟨b, p, sv, h1, h0, h2⟩) h
theorem _root_.Go.Trw.Pass.bldDead {Ω : Omg} {i i' T : Nat} {l : Str} {φ : Value → Prop} {σ : List (Nat × Nat)} {Ωi Ωo Ωn : Omg} (hi : Ω.lookup i = some (BldAt φ T l)) (h : Pass Ω σ Ωi Ωo Ωn) :
    Pass Ω ((i', i) :: σ) ((i', Bld T l) :: Ωi) ((i', OEnt.dead) :: Ωo) ((i, OEnt.dead) :: Ωn) :=
  .cons hi (fun _ _ v B S w ⟨b, p, sv, h1, h0, h2⟩ => ⟨b, p, sv, h1, trivial, h2⟩) (fun _ _ _ v B S w B' S' w' _ _ => trivial) h
def RNilI : RT Unit where
  agg := false
  size := 1
  rep _ _ cs _ := cs = [.nilIface]
  len := fun h => by rw [h]; rfl
  flat := fun h v hv => by rw [h] at hv; simp at hv; subst hv; rfl
  one := fun _ => rfl
  stable := fun h _ => h
theorem RNilI.val {S : Nat → Prop} {w : World} : RNilI.val S w .nilIface () := ⟨fun h => (nomatch h), fun _ => rfl⟩
theorem bytes_app (l s : Str) : Lib.byteCells (l ++ s) = Lib.byteCells l ++ Lib.byteCells s := by simp [Lib.byteCells]
theorem strCells_bytes (s : Str) : Lib.strCells ⟨s.toArray⟩ = Lib.byteCells s := by simp [Lib.strCells, Lib.byteCells]
theorem hand_bld {w : World} {O : Nat → Prop} {gs : Nat → Option Value} {own : Nat → Option Nat} {T : Nat} {l : Str} (hh : Hand w O gs own [(0, Bld T l)]) {v1 : Value} (h1 : (BP 0 0).sem gs (SO O own) w v1) :
    ∃ b p sv, v1 = .pointer (some ⟨b, 0, none⟩) ∧ gs 0 = some v1 ∧ own b = some 0 ∧ w.heap[b]? = some (.cells #[p, sv] T (0, 0)) ∧ (p = .pointer none ∨ p = .pointer (some ⟨b, 0, none⟩)) ∧ w.ownsRow 0 5 1 sv (Lib.byteCells l).length (Lib.byteCells l) ∧ sv.ownBlock ≠ some b ∧ (∀ k, sv.ownBlock = some k → own k = some 0) := by
  obtain ⟨b0, e1, e2⟩ := h1
  obtain ⟨v, hv, b, p, sv, k1, k0, k2, k3, k4, k5, k6, k7⟩ := hh.obj 0 (Bld T l) (by simp [lookup_cons])
  rw [e1] at hv
  simp only [Option.some.injEq] at hv
  subst hv
  simp only [Value.pointer.injEq, Option.some.injEq, Addr.mk.injEq] at k1
  obtain ⟨rfl, _⟩ := k1
  exact ⟨b0, p, sv, e2, by rw [e1, e2], k2, k3, k4, k5, k6, k7⟩
theorem hand_zero {w : World} {O : Nat → Prop} {gs : Nat → Option Value} {own : Nat → Option Nat} {e : OEnt} (hh : Hand w O gs own [(0, e)]) {b i : Nat} (h : own b = some i) : i = 0 := by
  have := hh.okeys b i h
  by_cases hi : i = 0
  · exact hi
  · exact absurd (by simp [lookup_cons, hi]) this
theorem bld_ret {w w' : World} {O : Nat → Prop} {gs : Nat → Option Value} {own : Nat → Option Nat} {T b : Nat} {l l' : Str} {sv : Value} (hh : Hand w O gs own [(0, Bld T l)]) (hg : gs 0 = some (.pointer (some ⟨b, 0, none⟩))) (hb : own b = some 0) (hblk : ∀ k, sv.ownBlock = some k → own k = some 0)
    (hw : Wrote T b sv (Lib.byteCells l') w w') {out : Ent} {v : Value} (ho : ∀ S, out.sem gs S w' v) : RetS [(0, Bld T l')] out w O gs own (.returned v) w' := by
  obtain ⟨sv', h1, h2, h3, h4⟩ := hw.ex
  refine ⟨v, fun x => if own x = some 0 ∨ (w.heap.size ≤ x ∧ x < w'.heap.size) then some 0 else none, gs, rfl, ?_, fun _ _ h => h, ?_, ?_, ?_, ho _⟩
  · refine hw.fut.mono fun x _ hx => ?_
    rcases hx with rfl | hx
    · rw [hb]; rfl
    · rw [hblk x hx]; rfl
  · intro x i hx
    simp only at hx
    split at hx
    · rename_i hc
      rcases hc with hc | hc
      · obtain ⟨q1, q2⟩ := hh.ownok x 0 hc
        exact ⟨Nat.lt_of_lt_of_le q1 hw.fut.size, q2, .inl (by rw [hc]; rfl)⟩
      · exact ⟨hc.2, fun k => by have := hh.olt x k; omega, .inr hc.1⟩
    · cases hx
  · intro x i hx
    simp only at hx
    split at hx
    · cases hx; simp [lookup_cons]
    · cases hx
  · intro i e hi
    rw [lookup_cons] at hi
    by_cases hi0 : i = 0
    · subst hi0
      simp only [if_true, Option.some.injEq] at hi
      subst hi
      have hlt : ∀ k, own k = some 0 → (fun x => if own x = some 0 ∨ (w.heap.size ≤ x ∧ x < w'.heap.size) then some 0 else none) k = some 0 := fun k hk => by simp [hk]
      refine ⟨_, hg, b, _, sv', rfl, trivial, hlt b hb, h1, .inr rfl, h2, h3, fun k hk => ?_⟩
      rcases h4 k hk with h | h
      · exact hlt k (hblk k h)
      · have := (h2.lt k hk).2
        show (if _ then some 0 else none) = some 0
        rw [if_pos (.inr ⟨h, this⟩)]
    · rw [if_neg hi0] at hi; cases hi
def strings_Builder_WriteString (s l : Str) : Option (Int × Unit × Str) := if List.length l + List.length s ≤ 16777216 then some ((s.length : Int), (), l ++ s) else none
theorem strings_Builder_WriteString_con {T : Nat} (hT : BldT T) (hT5 : T ≠ 5) (s l : Str) (r : Int × Unit × Str) (hm : strings_Builder_WriteString s l = some r) : SCon Base Tryz.prog 153 [(0, Bld T l)] [BP 0 0, D RStr s] [(0, Bld T r.2.2)] (TUP [D (RInt .i64) r.1, D RNilI r.2.1]) := by
  unfold strings_Builder_WriteString at hm
  obtain ⟨hs, hm⟩ := of_guard hm
  cases hm
  intro w O gs own args hh hgl ha
  cases ha with
  | cons h1 t => cases t with
    | cons h2 t =>
      cases t
      obtain ⟨rfl, hl⟩ := RStr.val_iff.1 h2
      obtain ⟨b, p, sv, rfl, k1, k2, k3, k4, k5, k6, k7⟩ := hand_bld hh h1
      have hib : Lib.IsBuilder T 5 0 b (Lib.byteCells l) w := by
        rcases k4 with rfl | rfl
        · exact .inl ⟨Nat.zero_le _, sv, k3, k5, k6⟩
        · exact .inr ⟨Nat.zero_le _, sv, k3, k5, k6⟩
      refine (Bl.writeString hT hT5 b (Lib.byteCells l) ⟨s.toArray⟩ w hib sv ⟨p, k3⟩ ?_).mono ?_
      · have : (Lib.byteCells l).length = l.length := by simp [Lib.byteCells]
        rw [this]
        show l.length + s.length ≤ _
        omega
      · rintro e w' ⟨rfl, hw⟩
        rw [strCells_bytes, ← bytes_app] at hw
        refine bld_ret hh k1 k2 k7 hw (fun S => ⟨[_, _], rfl, .cons (RInt.val_iff.2 ⟨rfl, ?_⟩) (.cons RNilI.val .nil)⟩)
        simp only [inK, IntKind.min, IntKind.max, IntKind.signed, IntKind.bits]
        simp
        omega
def strings_Builder_WriteByte (c : Int) (l : Str) : Option (Unit × Str) := if List.length l + 1 ≤ 16777216 ∧ 0 ≤ c ∧ c < 256 then some ((), l ++ [UInt8.ofNat c.toNat]) else none
theorem strings_Builder_WriteByte_con {T : Nat} (hT : BldT T) (hT5 : T ≠ 5) (c : Int) (l : Str) (r : Unit × Str) (hm : strings_Builder_WriteByte c l = some r) : SCon Base Tryz.prog 154 [(0, Bld T l)] [BP 0 0, D (RInt .u8) c] [(0, Bld T r.2)] (D RNilI r.1) := by
  unfold strings_Builder_WriteByte at hm
  obtain ⟨hs, hm⟩ := of_guard hm
  cases hm
  intro w O gs own args hh hgl ha
  cases ha with
  | cons h1 t => cases t with
    | cons h2 t =>
      cases t
      obtain ⟨rfl, hl⟩ := RInt.val_iff.1 h2
      obtain ⟨b, p, sv, rfl, k1, k2, k3, k4, k5, k6, k7⟩ := hand_bld hh h1
      have hib : Lib.IsBuilder T 5 0 b (Lib.byteCells l) w := by
        rcases k4 with rfl | rfl
        · exact .inl ⟨Nat.zero_le _, sv, k3, k5, k6⟩
        · exact .inr ⟨Nat.zero_le _, sv, k3, k5, k6⟩
      refine (Bl.writeByte hT hT5 b (Lib.byteCells l) c w hib sv ⟨p, k3⟩ ?_).mono ?_
      · have : (Lib.byteCells l).length = l.length := by simp [Lib.byteCells]
        rw [this]
        exact hs.1
      · rintro e w' ⟨rfl, hw⟩
        have hcb : [Value.int .u8 c] = Lib.byteCells [UInt8.ofNat c.toNat] := by
          simp only [Lib.byteCells, List.map_cons, List.map_nil, List.cons.injEq, and_true, Value.int.injEq, true_and]
          have : (UInt8.ofNat c.toNat).toNat = c.toNat := by simp [UInt8.toNat_ofNat']; omega
          rw [this]; omega
        rw [hcb, ← bytes_app] at hw
        exact bld_ret hh k1 k2 k7 hw (fun S => RNilI.val)
def strings_Builder_String (l : Str) : Option Str := if l ≠ [] ∧ List.length l ≤ 16777216 then some l else none
theorem strings_Builder_String_con {T : Nat} (l : Str) (r : Str) (hm : strings_Builder_String l = some r) : SCon Base Tryz.prog 27 [(0, Bld T l)] [BP 0 0] [(0, OEnt.dead)] (D RStr r) := by
  unfold strings_Builder_String at hm
  obtain ⟨hs, hm⟩ := of_guard hm
  cases hm
  intro w O gs own args hh hgl ha
  cases ha with
  | cons h1 t =>
    cases t
    obtain ⟨b, p, sv, rfl, k1, k2, k3, k4, k5, k6, k7⟩ := hand_bld hh h1
    have hbl : (Lib.byteCells l).length = l.length := by simp [Lib.byteCells]
    rw [hbl] at k5
    refine (Bl.string b l w p sv k3 k5 hs.1).mono ?_
    rintro e w' ⟨rfl, hf⟩
    refine ⟨_, fun _ => none, gs, rfl, ?_, fun _ _ h => h, fun x i hx => (nomatch hx), fun x i hx => (nomatch hx), ?_, RStr.val_iff.2 ⟨rfl, Nat.le_trans hs.2 (by decide)⟩⟩
    · exact hf.mono fun x _ hx => by rw [k7 x hx]; rfl
    · intro i e hi
      rw [lookup_cons] at hi
      by_cases hi0 : i = 0
      · subst hi0
        simp only [if_true, Option.some.injEq] at hi
        subst hi
        exact ⟨_, k1, trivial⟩
      · rw [if_neg hi0] at hi; cases hi
/-- A new builder. -/
theorem vf {X : Ctx} {Γ : Gam} {Ω : Omg} {d j T ty : Nat} {pos : String} {af : Array Edge} {g : Option (Nat × Bool)} (hz : (X.P.info? T).bind (·.zero) = some (.agg #[.pointer none, .slice none 0 0]) := by kernel_rfl) (hd : Nat.blt d X.n = true := by rfl) (hj : Ω.lookup j = none := by first | rfl | exact AFC.get rfl) :
    ST X Γ Ω ⟨some d, .alloc T, ty, pos, af, g⟩ ((d, BP j 0) :: Γ) ((j, Bld T []) :: Ω) := by
  rintro a w Q ⟨gs, own, hs⟩
  have hrun : (execOp a.eval ⟨some d, .alloc T, ty, pos, af, g⟩).run X.P w = .ok (.value (.pointer (some ⟨w.heap.size, 0, none⟩))) { w with heap := w.heap.push (.cells #[.pointer none, .slice none 0 0] T) } := by
    simp only [execOp, Instr.alloc]
    rw [run_value, Trw.run_bind, run_zeroValue hz]
    simp only [Trw.run_bind, run_newVar]; rfl
  unfold Oper.wp
  rw [hrun, Oper.upon_value]
  obtain ⟨gs', own', hs', hg, _⟩ := hs.new (i := j) (v := .pointer (some ⟨w.heap.size, 0, none⟩)) (e := Bld T []) (w' := { w with heap := w.heap.push (.cells #[.pointer none, .slice none 0 0] T) }) hj (fut_push _ _) (by simp)
    (fun own' _ h1 h2 h3 _ => ⟨w.heap.size, .pointer none, .slice none 0 0, rfl, trivial, h1, by simp, .inl rfl, World.ownsRow_nil _ _ _ _, by simp [Value.ownBlock], fun k hk => by simp [Value.ownBlock] at hk⟩)
  exact ⟨gs', own', hs'.put (lt_of_blt hd) (Fut.refl _ _) ⟨w.heap.size, hg, rfl⟩⟩
end Go.Proofs
