/- Own work: shelf.Lay and shelf.LayOp answer, and what. -/
import Derived.Test.YthdcblpadgdamaaGreatDoorTpPen2
set_option linter.all false
namespace Go.Proofs
open Go Go.Trw
theorem penWheres {N : Nat} {l : List api_Pred} {b : Str} (h : okL N (ok_Pred N) l) (hN : N ≤ 16777216) (hp : ∀ p ∈ l, PM p) (hb : b.length + (listL whereL l).length ≤ 16777216) : Tot (shelf_list_api_Pred_o0__shelf_pen_where_o0 l b) (fun r => r = b ++ listL whereL l) := by
  unfold shelf_list_api_Pred_o0__shelf_pen_where_o0
  exact penList (put := shelf_pen_where_o0) (f := whereL) (fun x hx c hk => penWhere (hp x hx) (h.2 x hx) hk) (Nat.le_trans h.1 hN) hb
theorem penDef {N : Nat} {d : api_Def} {b : Str} (h : ok_Def N d) (hN : N ≤ 16777216) (hp : ∀ p ∈ d.Where, PM p) (hb : b.length + (defL d).length ≤ 16777216) : Tot (shelf_pen_def_o0 d b) (fun r => r = b ++ defL d) := by
  unfold defL at *
  simp only [List.length_append] at hb
  unfold shelf_pen_def_o0
  refine Tot.bind ((penText (by omega)).mono fun x1 h1 => ?_)
  have e1 := congrArg List.length h1; simp only [List.length_append] at e1
  refine Tot.bind ((penListStr (Nat.le_trans h.globs.1 hN) (by omega)).mono fun x3 h3 => ?_)
  have e3 := congrArg List.length h3; simp only [List.length_append] at e3
  refine Tot.bind ((penWheres h.wher hN hp (by omega)).mono fun x5 h5 => ?_)
  have e5 := congrArg List.length h5; simp only [List.length_append] at e5
  refine Tot.bind ((penText (by omega)).mono fun x7 h7 => ?_)
  have e7 := congrArg List.length h7; simp only [List.length_append] at e7
  refine Tot.bind ((penText (by omega)).mono fun x9 h9 => ?_)
  have e9 := congrArg List.length h9; simp only [List.length_append] at e9
  refine Tot.bind ((penNumber h.j.parts (by omega)).mono fun x11 h11 => ?_)
  have e11 := congrArg List.length h11; simp only [List.length_append] at e11
  refine Tot.bind ((penNumber h.j.need (by omega)).mono fun x13 h13 => ?_)
  have e13 := congrArg List.length h13; simp only [List.length_append] at e13
  refine Tot.bind ((penNumber h.j.window (by omega)).mono fun x15 h15 => Tot.ret ?_)
  rw [h15, h13, h11, h9, h7, h5, h3, h1]; simp only [List.append_assoc]
theorem penOff {N : Nat} {x : api_Off} {b : Str} (h : ok_Off N x) (hb : b.length + (offL x).length ≤ 16777216) : Tot (shelf_pen_off_o0 x b) (fun r => r = b ++ offL x) := by
  unfold offL at *
  simp only [List.length_append] at hb
  unfold shelf_pen_off_o0
  refine Tot.bind ((penText (by omega)).mono fun x1 h1 => ?_)
  have e1 := congrArg List.length h1; simp only [List.length_append] at e1
  refine Tot.bind ((penNumber h.next (by omega)).mono fun x3 h3 => Tot.ret ?_)
  rw [h3, h1]; simp only [List.append_assoc]
theorem penKept {x : api_Kept} {b : Str} (h : ok_Kept x) (hb : b.length + (keptL x).length ≤ 16777216) : Tot (shelf_pen_kept_o0 x b) (fun r => r = b ++ keptL x) := by
  unfold keptL at *
  simp only [List.length_append] at hb
  unfold shelf_pen_kept_o0
  refine Tot.bind ((penNumber h.part (by omega)).mono fun x1 h1 => ?_)
  have e1 := congrArg List.length h1; simp only [List.length_append] at e1
  refine Tot.bind ((penId h.id (by omega)).mono fun x3 h3 => ?_)
  have e3 := congrArg List.length h3; simp only [List.length_append] at e3
  refine Tot.bind ((penNumber h.at_ (by omega)).mono fun x5 h5 => Tot.ret ?_)
  rw [h5, h3, h1]; simp only [List.append_assoc]
theorem penLast {N : Nat} {x : api_Last} {b : Str} (h : ok_Last N x) (hb : b.length + (lastL x).length ≤ 16777216) : Tot (shelf_pen_last_o0 x b) (fun r => r = b ++ lastL x) := by
  unfold lastL at *
  simp only [List.length_append] at hb
  unfold shelf_pen_last_o0
  refine Tot.bind ((penText (by omega)).mono fun x1 h1 => ?_)
  have e1 := congrArg List.length h1; simp only [List.length_append] at e1
  refine Tot.bind ((penId h.seq (by omega)).mono fun x3 h3 => ?_)
  have e3 := congrArg List.length h3; simp only [List.length_append] at e3
  refine Tot.bind ((penNumber h.offset (by omega)).mono fun x5 h5 => Tot.ret ?_)
  rw [h5, h3, h1]; simp only [List.append_assoc]
theorem penDead {x : api_Dead} {b : Str} (hb : b.length + (deadL x).length ≤ 16777216) : Tot (shelf_pen_dead_o0 x b) (fun r => r = b ++ deadL x) := by
  unfold deadL at *
  simp only [List.length_append] at hb
  unfold shelf_pen_dead_o0
  refine Tot.bind ((penText (by omega)).mono fun x1 h1 => ?_)
  have e1 := congrArg List.length h1; simp only [List.length_append] at e1
  refine Tot.bind ((penText (by omega)).mono fun x3 h3 => Tot.ret ?_)
  rw [h3, h1]; simp only [List.append_assoc]
theorem penTopic {N : Nat} {x : api_Topic} {b : Str} (h : ok_Topic N x) (hN : N ≤ 16777216) (hb : b.length + (topicL x).length ≤ 16777216) : Tot (shelf_pen_topic_o0 x b) (fun r => r = b ++ topicL x) := by
  unfold topicL at *
  simp only [List.length_append] at hb
  unfold shelf_pen_topic_o0
  refine Tot.bind ((penText (by omega)).mono fun x1 h1 => ?_)
  have e1 := congrArg List.length h1; simp only [List.length_append] at e1
  refine Tot.bind ((penNumber h.first (by omega)).mono fun x3 h3 => ?_)
  have e3 := congrArg List.length h3; simp only [List.length_append] at e3
  refine Tot.bind ((penListStr (Nat.le_trans h.log.1 hN) (by omega)).mono fun x5 h5 => Tot.ret ?_)
  rw [h5, h3, h1]; simp only [List.append_assoc]
theorem penIds {N : Nat} {l : List Int} {b : Str} (h : okL N (inK .u64) l) (hN : N ≤ 16777216) (hb : b.length + (listL idL l).length ≤ 16777216) : Tot (shelf_list_uint64_o0__shelf_pen_id_o0 l b) (fun r => r = b ++ listL idL l) := by
  unfold shelf_list_uint64_o0__shelf_pen_id_o0
  exact penList (put := shelf_pen_id_o0) (f := idL) (fun x hx c hk => penId (h.2 x hx) hk) (Nat.le_trans h.1 hN) hb
theorem penOut {N : Nat} {x : api_Out} {b : Str} (h : ok_Out N x) (hN : N ≤ 16777216) (hb : b.length + (outL x).length ≤ 16777216) : Tot (shelf_pen_out_o0 x b) (fun r => r = b ++ outL x) := by
  unfold outL at *
  simp only [List.length_append] at hb
  unfold shelf_pen_out_o0
  refine Tot.bind ((penId h.id (by omega)).mono fun x1 h1 => ?_)
  have e1 := congrArg List.length h1; simp only [List.length_append] at e1
  refine Tot.bind ((penText (by omega)).mono fun x3 h3 => ?_)
  have e3 := congrArg List.length h3; simp only [List.length_append] at e3
  refine Tot.bind ((penIds h.ids hN (by omega)).mono fun x5 h5 => ?_)
  have e5 := congrArg List.length h5; simp only [List.length_append] at e5
  refine Tot.bind ((penNumber h.tries (by omega)).mono fun x7 h7 => ?_)
  have e7 := congrArg List.length h7; simp only [List.length_append] at e7
  refine Tot.bind ((penNumber h.due (by omega)).mono fun x9 h9 => Tot.ret ?_)
  rw [h9, h7, h5, h3, h1]; simp only [List.append_assoc]
theorem valLay {v : api_Value} (h : val_May v = true) (hi : inK .i64 v.N) : Tot (val_Lay v) (fun r => r = (valL v, 0)) := by
  have hf := foldN_le hi
  have hl := packN_len10 hf
  unfold val_Lay
  rw [h]
  refine Tot.ite (fun c => by simp at c) fun _ => ?_
  have b1 : bytesS [(1 : Int)] = [1] := by simp [bytesS]
  have b2 : bytesS [(2 : Int)] = [2] := by simp [bytesS]
  unfold valL
  refine Tot.ite (fun c => ?_) fun c => ?_
  · rw [if_pos c, numFold hi]
    refine Tot.bind ((numPack (by omega)).mono fun r hr => ?_)
    subst hr
    rw [Int.toNat_natCast, b1]
    exact Tot.gd (by unfold maxS; simp; omega) fun _ => Tot.ret rfl
  · rw [if_neg c]
    have hs : v.S.length ≤ 60 := by
      rcases (valMay _).1 h with h | h
      · exact absurd h.1 c
      · exact h.2.2
    have hl2 := packN_len10 (n := v.S.length) (by omega)
    rw [lenU (by omega)]
    refine Tot.bind ((numPack (by omega)).mono fun r hr => ?_)
    subst hr
    rw [Int.toNat_natCast, b2]
    exact Tot.gd (by unfold maxS; simp; omega) fun _ => Tot.gd (by unfold maxS; simp; omega) fun _ => Tot.ret (by simp)
theorem penKepts {N : Nat} {l : List api_Kept} {b : Str} (h : okL N ok_Kept l) (hN : N ≤ 16777216) (hb : b.length + (listL keptL l).length ≤ 16777216) : Tot (shelf_list_api_Kept_o0__shelf_pen_kept_o0 l b) (fun r => r = b ++ listL keptL l) := by
  unfold shelf_list_api_Kept_o0__shelf_pen_kept_o0
  exact penList (put := shelf_pen_kept_o0) (f := keptL) (fun x hx c hk => penKept (h.2 x hx) hk) (Nat.le_trans h.1 hN) hb
theorem penInst {N : Nat} {x : api_Inst} {b : Str} (h : ok_Inst N x) (hN : N ≤ 16777216) (hv : val_May x.Key = true) (hb : b.length + (instL x).length ≤ 16777216) : Tot (shelf_pen_inst_o0 x b) (fun r => r = b ++ instL x) := by
  unfold instL at *
  simp only [List.length_append] at hb
  unfold shelf_pen_inst_o0
  refine Tot.bind ((valLay hv h.key.1).mono fun x1 h1 => ?_)
  subst h1
  refine Tot.bind ((bldStr (by dsimp only; omega)).mono fun x3 h3 => ?_)
  have e3 := congrArg List.length h3; simp only [List.length_append] at e3
  refine Tot.bind ((penKepts h.l hN (by omega)).mono fun x5 h5 => Tot.ret ?_)
  rw [h5, h3]; simp only [List.append_assoc]
theorem penOffs {N : Nat} {l : List api_Off} {b : Str} (h : okL N (ok_Off N) l) (hN : N ≤ 16777216) (hb : b.length + (listL offL l).length ≤ 16777216) : Tot (shelf_list_api_Off_o0__shelf_pen_off_o0 l b) (fun r => r = b ++ listL offL l) := by
  unfold shelf_list_api_Off_o0__shelf_pen_off_o0
  exact penList (put := shelf_pen_off_o0) (f := offL) (fun x hx c hk => penOff (h.2 x hx) hk) (Nat.le_trans h.1 hN) hb
theorem penInsts {N : Nat} {l : List api_Inst} {b : Str} (h : okL N (ok_Inst N) l) (hN : N ≤ 16777216) (hv : ∀ x ∈ l, val_May x.Key = true) (hb : b.length + (listL instL l).length ≤ 16777216) : Tot (shelf_list_api_Inst_o0__shelf_pen_inst_o0 l b) (fun r => r = b ++ listL instL l) := by
  unfold shelf_list_api_Inst_o0__shelf_pen_inst_o0
  exact penList (put := shelf_pen_inst_o0) (f := instL) (fun x hx c hk => penInst (h.2 x hx) hN (hv x hx) hk) (Nat.le_trans h.1 hN) hb
theorem penSub {N : Nat} {u : api_Sub} {b : Str} (h : ok_Sub N u) (hN : N ≤ 16777216) (hc : CS u) (hb : b.length + (subL u).length ≤ 16777216) : Tot (shelf_pen_sub_o0 u b) (fun r => r = b ++ subL u) := by
  unfold subL at *
  simp only [List.length_append] at hb
  unfold shelf_pen_sub_o0
  refine Tot.bind ((penDef h.d hN hc.1 (by omega)).mono fun x1 h1 => ?_)
  have e1 := congrArg List.length h1; simp only [List.length_append] at e1
  refine Tot.bind ((penOffs h.offs hN (by omega)).mono fun x3 h3 => ?_)
  have e3 := congrArg List.length h3; simp only [List.length_append] at e3
  refine Tot.bind ((penInsts h.insts hN hc.2 (by omega)).mono fun x5 h5 => ?_)
  have e5 := congrArg List.length h5; simp only [List.length_append] at e5
  unfold nums5L at *
  simp only [List.length_append] at hb
  have go : ∀ {c : Str} {n : Int}, inK .i64 n → c.length + (numL n).length ≤ 16777216 → ∀ (Q : Str → Prop), Q (c ++ numL n) → Tot (shelf_pen_number_o0 n c) Q := fun h1 h2 Q h3 => (penNumber h1 h2).mono fun r hr => hr ▸ h3
  refine Tot.bind (Tot.of' (r := x5 ++ (numL u.Fails ++ (numL u.Taken ++ (numL u.Passes ++ (numL u.Fires ++ numL u.Over))))) ?_ (Tot.ret ?_))
  · have hs : ∀ (i : Int) (c : Str) (n : Int), inK .i64 n → 0 ≤ i → i < 5 → nth ([u.Fails, u.Taken, u.Passes, u.Fires, u.Over] : List Int) i = n → c.length + (numL n).length ≤ 16777216 → (if (decide (i < (5 : Int))) = true then (if 0 ≤ i ∧ i < ((5 : Nat) : Int) then ((shelf_pen_number_o0 (nth ([u.Fails, u.Taken, u.Passes, u.Fires, u.Over] : (List Int)) i) c).bind fun x29 => (some (Sum.inl (IntKind.i64.wrap (i + (1 : Int)), x29)))) else none) else (some (Sum.inr c)) : Option ((Int × Str) ⊕ Str)) = some (Sum.inl (i + 1, c ++ numL n)) := by
      intro i c n h1 h2 h3 h4 h5
      rw [if_pos (by simpa using h3), if_pos ⟨h2, by omega⟩, h4, (penNumber h1 h5).eq]
      show some (Sum.inl (IntKind.i64.wrap (i + 1), c ++ numL n)) = _
      rw [wrap64 (by omega) (by omega)]
    rw [loopO_eq]; dsimp only; rw [hs 0 _ _ h.fails (by omega) (by omega) rfl (by omega)]; dsimp only
    rw [loopO_eq]; dsimp only; rw [hs _ _ _ h.taken (by omega) (by omega) rfl (by simp only [List.length_append]; omega)]; dsimp only
    rw [loopO_eq]; dsimp only; rw [hs _ _ _ h.passes (by omega) (by omega) rfl (by simp only [List.length_append]; omega)]; dsimp only
    rw [loopO_eq]; dsimp only; rw [hs _ _ _ h.fires (by omega) (by omega) rfl (by simp only [List.length_append]; omega)]; dsimp only
    rw [loopO_eq]; dsimp only; rw [hs _ _ _ h.over (by omega) (by omega) rfl (by simp only [List.length_append]; omega)]; dsimp only
    rw [loopO_eq]; dsimp only; rw [if_neg (by simp)]
    simp only [List.append_assoc]
  · rw [h5, h3, h1]; simp only [List.append_assoc]
theorem penTopics {N : Nat} {l : List api_Topic} {b : Str} (h : okL N (ok_Topic N) l) (hN : N ≤ 16777216) (hb : b.length + (listL topicL l).length ≤ 16777216) : Tot (shelf_list_api_Topic_o0__shelf_pen_topic_o0 l b) (fun r => r = b ++ listL topicL l) := by
  unfold shelf_list_api_Topic_o0__shelf_pen_topic_o0
  exact penList (put := shelf_pen_topic_o0) (f := topicL) (fun x hx c hk => penTopic (h.2 x hx) hN hk) (Nat.le_trans h.1 hN) hb
theorem penLasts {N : Nat} {l : List api_Last} {b : Str} (h : okL N (ok_Last N) l) (hN : N ≤ 16777216) (hb : b.length + (listL lastL l).length ≤ 16777216) : Tot (shelf_list_api_Last_o0__shelf_pen_last_o0 l b) (fun r => r = b ++ listL lastL l) := by
  unfold shelf_list_api_Last_o0__shelf_pen_last_o0
  exact penList (put := shelf_pen_last_o0) (f := lastL) (fun x hx c hk => penLast (h.2 x hx) hk) (Nat.le_trans h.1 hN) hb
theorem penSubs {N : Nat} {l : List api_Sub} {b : Str} (h : okL N (ok_Sub N) l) (hN : N ≤ 16777216) (hc : ∀ u ∈ l, CS u) (hb : b.length + (listL subL l).length ≤ 16777216) : Tot (shelf_list_api_Sub_o0__shelf_pen_sub_o0 l b) (fun r => r = b ++ listL subL l) := by
  unfold shelf_list_api_Sub_o0__shelf_pen_sub_o0
  exact penList (put := shelf_pen_sub_o0) (f := subL) (fun x hx c hk => penSub (h.2 x hx) hN (hc x hx) hk) (Nat.le_trans h.1 hN) hb
theorem penOuts {N : Nat} {l : List api_Out} {b : Str} (h : okL N (ok_Out N) l) (hN : N ≤ 16777216) (hb : b.length + (listL outL l).length ≤ 16777216) : Tot (shelf_list_api_Out_o0__shelf_pen_out_o0 l b) (fun r => r = b ++ listL outL l) := by
  unfold shelf_list_api_Out_o0__shelf_pen_out_o0
  exact penList (put := shelf_pen_out_o0) (f := outL) (fun x hx c hk => penOut (h.2 x hx) hN hk) (Nat.le_trans h.1 hN) hb
theorem penDeads {N : Nat} {l : List api_Dead} {b : Str} (h : okL N (ok_Dead N) l) (hN : N ≤ 16777216) (hb : b.length + (listL deadL l).length ≤ 16777216) : Tot (shelf_list_api_Dead_o0__shelf_pen_dead_o0 l b) (fun r => r = b ++ listL deadL l) := by
  unfold shelf_list_api_Dead_o0__shelf_pen_dead_o0
  exact penList (put := shelf_pen_dead_o0) (f := deadL) (fun x hx c hk => penDead hk) (Nat.le_trans h.1 hN) hb
theorem penRouter {N : Nat} {r : api_Router} {b : Str} (h : ok_Router N r) (hN : N ≤ 16777216) (hc : ∀ u ∈ r.Subs, CS u) (hb : b.length + (routerL r).length ≤ 16777216) : Tot (shelf_pen_router_o0 r b) (fun x => x = b ++ routerL r) := by
  unfold routerL at *
  simp only [List.length_append] at hb
  unfold shelf_pen_router_o0
  refine Tot.bind ((penNumber h.now (by omega)).mono fun x1 h1 => ?_)
  have e1 := congrArg List.length h1; simp only [List.length_append] at e1
  refine Tot.bind ((penTopics h.topics hN (by omega)).mono fun x3 h3 => ?_)
  have e3 := congrArg List.length h3; simp only [List.length_append] at e3
  refine Tot.bind ((penLasts h.lasts hN (by omega)).mono fun x5 h5 => ?_)
  have e5 := congrArg List.length h5; simp only [List.length_append] at e5
  refine Tot.bind ((penSubs h.subs hN hc (by omega)).mono fun x7 h7 => ?_)
  have e7 := congrArg List.length h7; simp only [List.length_append] at e7
  refine Tot.bind ((penNumber h.total (by omega)).mono fun x9 h9 => ?_)
  have e9 := congrArg List.length h9; simp only [List.length_append] at e9
  refine Tot.bind ((penOuts h.out hN (by omega)).mono fun x11 h11 => ?_)
  have e11 := congrArg List.length h11; simp only [List.length_append] at e11
  refine Tot.bind ((penOuts h.given_ hN (by omega)).mono fun x13 h13 => ?_)
  have e13 := congrArg List.length h13; simp only [List.length_append] at e13
  refine Tot.bind ((penDeads h.dead hN (by omega)).mono fun x15 h15 => Tot.ret ?_)
  rw [h15, h13, h11, h9, h7, h5, h3, h1]; simp only [List.append_assoc]
theorem numL_pos (n : Int) : 1 ≤ (numL n).length := packN_pos _
/-- A router whose octets there are. -/
def CR (r : api_Router) : Prop := ∀ u ∈ r.Subs, CS u
theorem shelfLay {r : api_Router} (h : few_Router r) : Tot (shelf_Lay r) (fun x => (x.2 = 0 ∨ x.2 = 1) ∧ (x.2 = 0 → CR r ∧ x.1 = routerL r) ∧ (x.2 = 1 → x.1 = [])) := by
  unfold shelf_Lay
  refine Tot.bind ((routeCheck h.ok (by omega)).mono fun e he => ?_)
  refine Tot.ite (fun c => Tot.ret ⟨.inr rfl, fun k => by simp at k, fun _ => rfl⟩) fun c => ?_
  have hc : CR r := he.2 (by simpa using c)
  have hl := routerL_len h (fun u hu p hp => ((hc u hu).1 p hp).pv)
  refine Tot.bind ((penRouter (b := []) h.ok (by omega) hc (by simpa using hl)).mono fun x hx => ?_)
  have hx' : x = routerL r := by simpa using hx
  subst hx'
  have hp : 1 ≤ (routerL r).length := by have := numL_pos r.Now; unfold routerL; rw [List.length_append]; omega
  exact Tot.bind ((bldGet hp hl).mono fun y hy => Tot.ret ⟨.inl rfl, fun _ => ⟨hc, hy⟩, fun k => by simp at k⟩)
end Go.Proofs
