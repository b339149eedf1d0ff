import Derived.Test.YthdcblpadgdamaaGreatDoorTzP1
set_option linter.all false
set_option maxRecDepth 100000
set_option maxHeartbeats 4000000
namespace Go.Proofs
open Go Go.Trw Tryz
theorem outbox_at_con (a0 r) (hm : outbox_at a0 = r) : PC 201 [D (RInt .i64) a0] (D RBool r) := by
 refine PI func201 fun w O=>?_
 unfold outbox_at at hm
 cases hm
 exact sr<|js (qb oB)<|nt<|sr<|js (qa ot)<|js (qI ot oi)<|js (qa ot)<|jg (fun hg1=>qa ot)<|jg (fun hg2=>qN (ow hg2) oi)<|js (ql ot (fun hk3 => ow hk3))<|js (qb ot)<|nt<|ct<|JE.retA rfl (RvOK.tmp rfl)
theorem outbox_may_con (a0 r) (hm : outbox_may a0 = some r) : PC 168 [D R_api_Out a0] (D RBool r) := by
 refine PI func168 fun w O=>?_
 unfold outbox_may at hm
 obtain ⟨x4,hx5,hm⟩ :=ob hm
 cases hm
 exact sr<|js (qq (i:=1) ot)<|js (qb oB)<|nt<|sr<|js (qc ot (fp pl88))<|js (qd ot fo_api_Out_0 ty46)<|js (qI ot oi)<|js (qa ot)<|jg (fun hg1=>qc ot (fp pl88))<|jg (fun hg2=>qd (ow hg2) fo_api_Out_1 ty9)<|jg (fun hg3=>qe oF (event_Field_con (api_Out.Sub a0) _ (of_pos hg3 hx5)) call113 (zc (zo (ow hg3)) zn))<|js (ql ot (fun hk6 => ow hk6))<|js (qa ot)<|jg (fun hg7=>qc ot (fp pl88))<|jg (fun hg8=>qd (ow hg8) fo_api_Out_2 ty86)<|jg (fun hg9=>qf (ow hg9) u86)<|jg (fun hg10=>qI (ow hg10) oi)<|js (ql ot (fun hk11 => ow hk11))<|js (qa ot)<|jg (fun hg12=>qc ot (fp pl88))<|jg (fun hg13=>qd (ow hg13) fo_api_Out_2 ty86)<|jg (fun hg14=>qf (ow hg14) u86)<|jg (fun hg15=>qN (ow hg15) oi)<|js (ql ot (fun hk16 => ow hk16))<|js (qa ot)<|jg (fun hg17=>qc ot (fp pl88))<|jg (fun hg18=>qd (ow hg18) fo_api_Out_3 ty3)<|jg (fun hg19=>qI (ow hg19) oi)<|js (ql ot (fun hk20 => ow hk20))<|js (qa ot)<|jg (fun hg21=>qc ot (fp pl88))<|jg (fun hg22=>qd (ow hg22) fo_api_Out_3 ty3)<|jg (fun hg23=>qh (ow hg23) oi)<|js (ql ot (fun hk24 => ow hk24))<|js (qa ot)<|jg (fun hg25=>qc ot (fp pl88))<|jg (fun hg26=>qd (ow hg26) fo_api_Out_4 ty3)<|jg (fun hg27=>qe oF (outbox_at_con (api_Out.Due a0) _ rfl) call201 (zc (zo (ow hg27)) zn))<|js (ql ot (fun hk28 => ow hk28))<|js (qb ot)<|nt<|ct<|JE.retA rfl (RvOK.tmp rfl)
theorem outbox_Check_con (a0 r) (hm : outbox_Check a0 = some r) : PC 115 [D (RSlice R_api_Out) a0] (D (RInt .i64) r) := by
 refine PI func115 fun w O=>?_
 unfold outbox_Check at hm
 refine sr<|js (qb oi)<|nt<|cs<|sr<|js (qa ot)<|js (qf ot u25)<|js (qs ot oi)<|nt<|cn ot hm (fun hc1 hm=>?_) fun hc1 hm=>?_
 ·cases hm
  exact sr<|js (qb oi)<|nt<|ct<|tr<|JE.retA rfl (RvOK.tmp rfl)
 ·obtain ⟨e47,hl45,hm⟩ :=ob hm
  refine ck<|tn<|cs<|sr<|js (qa ot)<|js (qf ot u25)<|js (qa oi)<|nt<|JC.joinS e47 (fun s53=>[]) (fun s53=>[]) (fun s53 he=>?_) (fun _ hK46=>?_)
  ·cases he
   try dsimp only at hm
   cases hm
   exact tn<|sr<|js (qb oi)<|nt<|ct<|JE.retA rfl (RvOK.tmp rfl)
  ·refine cb<|JC.loop _ (fun s52=>[(0, D (RSlice R_api_Out) a0), (8, D (RSlice R_api_Out) a0), (9, D (RInt .i64) (List.length a0 : Int)), (10, D (RInt .i64) s52)]) (fun s52=>[]) _ ?_ _ hl45 ml
   intro v23 r51 _ hs48 hB49 hE50
   try dsimp only at hs48
   refine sr<|js (qh ot ot)<|nt<|cs<|cn ot hs48 (fun hc54 hs48=>?_) fun hc54 hs48=>?_
   ·obtain ⟨hb55,hs48⟩ :=og hs48
    obtain ⟨x56,hx57,hs48⟩ :=ob hs48
    obtain ⟨hb65,hs48⟩ :=og hs48
    refine ck<|tn<|cs<|cb<|sr<|js (qa ot)<|js (qj ot ot u25 ty88 hb55)<|js (qi ot ty88)<|js (qp (i:=3) zero88)<|js (qb ot)<|js (qo ot ot ty88)<|nt<|cs<|cd [15,16,17,18,19,20,21,22,23,24,25,26,27,28,29,30,31,32] mixed [⟨[(4, BP 3 0)], [(15, D R_api_Out (nth a0 v23))], [(3, Box R_api_Out 88 (nth a0 v23))], [], []⟩,⟨[(15, D R_api_Out (nth a0 v23))], [(16, D RBool x56)], [], [], []⟩,⟨[(16, D RBool x56)], [(17, D RBool (!x56))], [], [], []⟩,⟨[(17, D RBool (!x56))], [(18, D RBool (!x56))], [], [], []⟩,⟨[(18, D RBool (!x56)), (3, D (RInt .i64) v23)], [(19, Ent.when ((!x56) = false) (D (RInt .i64) v23))], [], [], []⟩,⟨[(18, D RBool (!x56)), (19, Ent.when ((!x56) = false) (D (RInt .i64) v23))], [(20, Ent.when ((!x56) = false) (D RBool (decide (v23 > (0 : Int)))))], [], [], []⟩,⟨[(18, D RBool (!x56)), (20, Ent.when ((!x56) = false) (D RBool (decide (v23 > (0 : Int)))))], [(21, Ent.when ((!x56) = false) (D RBool (decide (v23 > (0 : Int)))))], [], [], []⟩,⟨[(21, Ent.when ((!x56) = false) (D RBool (decide (v23 > (0 : Int))))), (0, D (RSlice R_api_Out) a0)], [(22, Ent.when ((!x56) = false ∧ (decide (v23 > (0 : Int))) = true) (D (RSlice R_api_Out) a0))], [], [], []⟩,⟨[(21, Ent.when ((!x56) = false) (D RBool (decide (v23 > (0 : Int))))), (3, D (RInt .i64) v23)], [(23, Ent.when ((!x56) = false ∧ (decide (v23 > (0 : Int))) = true) (D (RInt .i64) v23))], [], [], []⟩,⟨[(21, Ent.when ((!x56) = false) (D RBool (decide (v23 > (0 : Int))))), (23, Ent.when ((!x56) = false ∧ (decide (v23 > (0 : Int))) = true) (D (RInt .i64) v23))], [(24, Ent.when ((!x56) = false ∧ (decide (v23 > (0 : Int))) = true) (D (RInt .i64) (IntKind.i64.wrap (v23 - (1 : Int)))))], [], [], []⟩,⟨[(21, Ent.when ((!x56) = false) (D RBool (decide (v23 > (0 : Int))))), (22, Ent.when ((!x56) = false ∧ (decide (v23 > (0 : Int))) = true) (D (RSlice R_api_Out) a0)), (24, Ent.when ((!x56) = false ∧ (decide (v23 > (0 : Int))) = true) (D (RInt .i64) (IntKind.i64.wrap (v23 - (1 : Int)))))], [(25, Ent.when ((!x56) = false ∧ (decide (v23 > (0 : Int))) = true) (D (RPtr R_api_Out) (nth a0 (IntKind.i64.wrap (v23 - (1 : Int))))))], [], [], []⟩,⟨[(21, Ent.when ((!x56) = false) (D RBool (decide (v23 > (0 : Int))))), (25, Ent.when ((!x56) = false ∧ (decide (v23 > (0 : Int))) = true) (D (RPtr R_api_Out) (nth a0 (IntKind.i64.wrap (v23 - (1 : Int))))))], [(26, Ent.when ((!x56) = false ∧ (decide (v23 > (0 : Int))) = true) (D (RPtr (RInt .u64)) (api_Out.Id (nth a0 (IntKind.i64.wrap (v23 - (1 : Int)))))))], [], [], []⟩,⟨[(21, Ent.when ((!x56) = false) (D RBool (decide (v23 > (0 : Int))))), (26, Ent.when ((!x56) = false ∧ (decide (v23 > (0 : Int))) = true) (D (RPtr (RInt .u64)) (api_Out.Id (nth a0 (IntKind.i64.wrap (v23 - (1 : Int)))))))], [(27, Ent.when ((!x56) = false ∧ (decide (v23 > (0 : Int))) = true) (D (RInt .u64) (api_Out.Id (nth a0 (IntKind.i64.wrap (v23 - (1 : Int)))))))], [], [], []⟩,⟨[(21, Ent.when ((!x56) = false) (D RBool (decide (v23 > (0 : Int))))), (4, BP 3 0)], [(28, Ent.when ((!x56) = false ∧ (decide (v23 > (0 : Int))) = true) (BP 3 0))], [], [], []⟩,⟨[(21, Ent.when ((!x56) = false) (D RBool (decide (v23 > (0 : Int))))), (28, Ent.when ((!x56) = false ∧ (decide (v23 > (0 : Int))) = true) (BP 3 0))], [(29, Ent.when ((!x56) = false ∧ (decide (v23 > (0 : Int))) = true) (D (RInt .u64) (api_Out.Id (nth a0 v23))))], [(3, Box R_api_Out 88 (nth a0 v23))], [], []⟩,⟨[(21, Ent.when ((!x56) = false) (D RBool (decide (v23 > (0 : Int))))), (27, Ent.when ((!x56) = false ∧ (decide (v23 > (0 : Int))) = true) (D (RInt .u64) (api_Out.Id (nth a0 (IntKind.i64.wrap (v23 - (1 : Int))))))), (29, Ent.when ((!x56) = false ∧ (decide (v23 > (0 : Int))) = true) (D (RInt .u64) (api_Out.Id (nth a0 v23))))], [(30, Ent.when ((!x56) = false ∧ (decide (v23 > (0 : Int))) = true) (D RBool (decide ((api_Out.Id (nth a0 (IntKind.i64.wrap (v23 - (1 : Int))))) ≥ (api_Out.Id (nth a0 v23))))))], [], [], []⟩,⟨[(18, D RBool (!x56)), (21, Ent.when ((!x56) = false) (D RBool (decide (v23 > (0 : Int))))), (30, Ent.when ((!x56) = false ∧ (decide (v23 > (0 : Int))) = true) (D RBool (decide ((api_Out.Id (nth a0 (IntKind.i64.wrap (v23 - (1 : Int))))) ≥ (api_Out.Id (nth a0 v23))))))], [(31, Ent.when ((!x56) = false) (D RBool ((decide (v23 > (0 : Int))) && (decide ((api_Out.Id (nth a0 (IntKind.i64.wrap (v23 - (1 : Int))))) ≥ (api_Out.Id (nth a0 v23)))))))], [], [], []⟩,⟨[(18, D RBool (!x56)), (31, Ent.when ((!x56) = false) (D RBool ((decide (v23 > (0 : Int))) && (decide ((api_Out.Id (nth a0 (IntKind.i64.wrap (v23 - (1 : Int))))) ≥ (api_Out.Id (nth a0 v23)))))))], [(32, D RBool ((!x56) || ((decide (v23 > (0 : Int))) && (decide ((api_Out.Id (nth a0 (IntKind.i64.wrap (v23 - (1 : Int))))) ≥ (api_Out.Id (nth a0 v23)))))))], [], [], []⟩] (al (fun _ _ h k f=>gu (qn (ot h.1) ty88 (hi:=k.1)))<|al (fun _ _ h k f=>gu (qe oF (outbox_may_con (nth a0 v23) _ hx57) call168 (zc (zo (ot h.1)) zn)))<|al (fun _ _ h k f=>gu (qr (ot h.1)))<|al (fun _ _ h k f=>gu (qa (ot h.1)))<|al (fun _ _ h k f=>gg h.1 fun hg58=>qa (ot h.2.1))<|al (fun _ _ h k f=>gg h.1 fun hg59=>qs (ow hg59 h.2.1) oi)<|al (fun _ _ h k f=>gg h.1 fun hg60=>qa (ow hg60 h.2.1))<|al (fun _ _ h k f=>gh h.1 fun hg61=>qa (ot h.2.1))<|al (fun _ _ h k f=>gh h.1 fun hg62=>qa (ot h.2.1))<|al (fun _ _ h k f=>gh h.1 fun hg63=>qE (ow hg63 h.2.1) oi)<|al (fun _ _ h k f=>gh h.1 fun hg64=>qj (ow hg64 h.2.1) (ow hg64 h.2.2.1) u25 ty88 (hb65 hg64))<|al (fun _ _ h k f=>gh h.1 fun hg66=>qx (ow hg66 h.2.1) (fp pl88) fo_api_Out_0)<|al (fun _ _ h k f=>gh h.1 fun hg67=>qi (ow hg67 h.2.1) ty46)<|al (fun _ _ h k f=>gh h.1 fun hg68=>qc (off:=0) (ot h.2.1) (fp pl88))<|al (fun _ _ h k f=>gh h.1 fun hg69=>qd (get:=fun d => api_Out.Id d) (ow hg69 h.2.1) fo_api_Out_0 ty46 (hi:=k.1))<|al (fun _ _ h k f=>gh h.1 fun hg70=>qI (ow hg70 h.2.1) (ow hg70 h.2.2.1))<|al (fun _ _ h k f=>gg h.1 fun hg71=>ql (ow hg71 h.2.1) (fun hk72 => ow (And.intro hg71 hk72) h.2.2.1))<|al (fun _ _ h k f=>gu (qm (ot h.1) (fun hk73 => ow hk73 h.2.1)))<|an)<|jv [0,8,9,10,32] [] ?_
    refine nt<|cn ot hs48 (fun hc74 hs48=>?_) fun hc74 hs48=>?_
    ·cases hs48
     cases (hE50 _ rfl)
     cases hm
     exact sr<|js (qb oi)<|nt<|ct<|br<|tr<|tr<|br<|tr<|tr<|JE.retA rfl (RvOK.tmp rfl)
    ·cases hs48
     exact ck<|bn<|tn<|cr<|js (qk ot oi)<|js (qa ot)<|jn<|mt (hB49 _ rfl)
   ·cases hs48
    cases (hE50 _ rfl)
    exact cx<|tx<|tx<|bx<|mt (hK46 _ rfl)
theorem route_mayOut_con (a0 r) (hm : route_mayOut a0 = some r) : PC 61 [D R_api_Router a0] (D RBool r) := by
 refine PI func61 fun w O=>?_
 unfold route_mayOut at hm
 obtain ⟨x4,hx5,hm⟩ :=ob hm
 obtain ⟨x11,hx12,hm⟩ :=ob hm
 refine sr<|js (qq (i:=1) ot)<|js (qb oB)<|nt<|cs<|sr<|js (qc ot (fp pl28))<|js (qd ot fo_api_Router_4 ty3)<|js (qh ot oi)<|js (qa ot)<|jg (fun hg1=>qc ot (fp pl28))<|jg (fun hg2=>qd (ow hg2) fo_api_Router_5 ty25)<|jg (fun hg3=>qe oF (outbox_Check_con (api_Router.Out a0) _ (of_pos hg3 hx5)) call115 (zc (zo (ow hg3)) zn))<|jg (fun hg6=>qw (ow hg6) oi)<|js (qm ot (fun hk7 => ow hk7))<|js (qa ot)<|jg (fun hg8=>qc ot (fp pl28))<|jg (fun hg9=>qd (ow hg9) fo_api_Router_6 ty25)<|jg (fun hg10=>qe oF (outbox_Check_con (api_Router.Given a0) _ (of_pos hg10 hx12)) call115 (zc (zo (ow hg10)) zn))<|jg (fun hg13=>qw (ow hg13) oi)<|js (qm ot (fun hk14 => ow hk14))<|nt<|cn ot hm (fun hc15 hm=>?_) fun hc15 hm=>?_
 ·cases hm
  exact sr<|js (qb oB)<|nt<|ct<|tr<|JE.retA rfl (RvOK.tmp rfl)
 ·obtain ⟨e51,hl49,hm⟩ :=ob hm
  refine ck<|tn<|cs<|sr<|js (qc ot (fp pl28))<|js (qd ot fo_api_Router_5 ty25)<|js (qc ot (fp pl28))<|js (qd ot fo_api_Router_6 ty25)<|js (vo u183 ty25 zero183 (.cons ot (.cons ot .nil)))<|js (qa oi)<|nt<|JC.joinS e51 (fun s57=>[(1, BP 1 0)]) (fun s57=>[(1, Box R_api_Router 28 a0)]) (fun s57 he=>?_) (fun _ hK50=>?_)
  ·cases he
   try dsimp only at hm
   obtain ⟨e84,hl82,hm⟩ :=ob hm
   refine tn<|sr<|js (qb oi)<|js (qb oi)<|nt<|cs<|JC.joinS e84 (fun s90=>[]) (fun s90=>[]) (fun s90 he=>?_) (fun _ hK83=>?_)
   ·cases he
    try dsimp only at hm
    cases hm
    exact tn<|sr<|js (qb oB)<|nt<|ct<|JE.retA rfl (RvOK.tmp rfl)
   ·refine cb<|JC.loop _ (fun s89=>[(1, BP 1 0), (5, D (RInt .i64) s89.1), (6, D (RInt .i64) s89.2)]) (fun s89=>[(1, Box R_api_Router 28 a0)]) _ ?_ _ hl82 ml
    intro s89 r88 _ hs85 hB86 hE87
    obtain ⟨v69, v70⟩ := s89
    try dsimp only at hs85
    refine cs<|sr<|js (qa ot)<|js (qc ot (fp pl28))<|js (qd ot fo_api_Router_5 ty25)<|js (qf ot u25)<|js (qh ot ot)<|js (qa ot)<|jg (fun hg91=>qa ot)<|jg (fun hg92=>qc ot (fp pl28))<|jg (fun hg93=>qd (ow hg93) fo_api_Router_6 ty25)<|jg (fun hg94=>qf (ow hg94) u25)<|jg (fun hg95=>qh (ow hg95) (ow hg95))<|js (ql ot (fun hk96 => ow hk96))<|nt<|cn ot hs85 (fun hc97 hs85=>?_) fun hc97 hs85=>?_
    ·obtain ⟨hb98,hs85⟩ :=og hs85
     obtain ⟨hb99,hs85⟩ :=og hs85
     refine ck<|tn<|cb<|cs<|cd [61,62,63,64,65,66,67,68,69,70,71,72,7] mixed [⟨[(1, BP 1 0)], [(61, BP 1 5)], [], [], []⟩,⟨[(61, BP 1 5)], [(62, D (RSlice R_api_Out) (api_Router.Out a0))], [(1, Box R_api_Router 28 a0)], [], []⟩,⟨[(5, D (RInt .i64) v69)], [(63, D (RInt .i64) v69)], [], [], []⟩,⟨[(62, D (RSlice R_api_Out) (api_Router.Out a0)), (63, D (RInt .i64) v69)], [(64, D (RPtr R_api_Out) (nth (api_Router.Out a0) v69))], [], [], []⟩,⟨[(64, D (RPtr R_api_Out) (nth (api_Router.Out a0) v69))], [(65, D (RPtr (RInt .u64)) (api_Out.Id (nth (api_Router.Out a0) v69)))], [], [], []⟩,⟨[(65, D (RPtr (RInt .u64)) (api_Out.Id (nth (api_Router.Out a0) v69)))], [(66, D (RInt .u64) (api_Out.Id (nth (api_Router.Out a0) v69)))], [], [], []⟩,⟨[(1, BP 1 0)], [(67, BP 1 6)], [], [], []⟩,⟨[(67, BP 1 6)], [(68, D (RSlice R_api_Out) (api_Router.Given a0))], [(1, Box R_api_Router 28 a0)], [], []⟩,⟨[(6, D (RInt .i64) v70)], [(69, D (RInt .i64) v70)], [], [], []⟩,⟨[(68, D (RSlice R_api_Out) (api_Router.Given a0)), (69, D (RInt .i64) v70)], [(70, D (RPtr R_api_Out) (nth (api_Router.Given a0) v70))], [], [], []⟩,⟨[(70, D (RPtr R_api_Out) (nth (api_Router.Given a0) v70))], [(71, D (RPtr (RInt .u64)) (api_Out.Id (nth (api_Router.Given a0) v70)))], [], [], []⟩,⟨[(71, D (RPtr (RInt .u64)) (api_Out.Id (nth (api_Router.Given a0) v70)))], [(72, D (RInt .u64) (api_Out.Id (nth (api_Router.Given a0) v70)))], [], [], []⟩,⟨[(66, D (RInt .u64) (api_Out.Id (nth (api_Router.Out a0) v69)))], [(7, D (RInt .u64) (api_Out.Id (nth (api_Router.Out a0) v69)))], [], [], []⟩] (al (fun _ _ h k f=>gu (qc (off:=5) (ot h.1) (fp pl28)))<|al (fun _ _ h k f=>gu (qd (get:=fun d => api_Router.Out d) (ot h.1) fo_api_Router_5 ty25 (hi:=k.1)))<|al (fun _ _ h k f=>gu (qa (ot h.1)))<|al (fun _ _ h k f=>gu (qj (ot h.1) (ot h.2.1) u25 ty88 hb98))<|al (fun _ _ h k f=>gu (qx (ot h.1) (fp pl88) fo_api_Out_0))<|al (fun _ _ h k f=>gu (qi (ot h.1) ty46))<|al (fun _ _ h k f=>gu (qc (off:=6) (ot h.1) (fp pl28)))<|al (fun _ _ h k f=>gu (qd (get:=fun d => api_Router.Given d) (ot h.1) fo_api_Router_6 ty25 (hi:=k.1)))<|al (fun _ _ h k f=>gu (qa (ot h.1)))<|al (fun _ _ h k f=>gu (qj (ot h.1) (ot h.2.1) u25 ty88 hb99))<|al (fun _ _ h k f=>gu (qx (ot h.1) (fp pl88) fo_api_Out_0))<|al (fun _ _ h k f=>gu (qi (ot h.1) ty46))<|al (fun _ _ h k f=>gu (qb (ot h.1)))<|an)<|jv [1,5,6,7,72] [1] ?_
     refine js (qb ot)<|nt<|cb<|sr<|js (qa ot)<|js (qa ot)<|js (qy ot ot)<|js (qb ot)<|nt<|cn ot hs85 (fun hc100 hs85=>?_) fun hc100 hs85=>?_
     ·cases hs85
      cases (hE87 _ rfl)
      cases hm
      exact sr<|js (qb oB)<|nt<|ct<|br<|br<|tr<|br<|tr<|tr<|JE.retA rfl (RvOK.tmp rfl)
     ·refine sr<|js (qa ot)<|js (qa ot)<|js (qh ot ot)<|js (qb ot)<|nt<|cn ot hs85 (fun hc101 hs85=>?_) fun hc101 hs85=>?_
      ·cases hs85
       exact cr<|js (qa ot)<|js (qk ot oi)<|js (qb ot)<|jn<|bn<|bn<|mt (hB86 _ rfl)
      ·cases hs85
       exact cr<|js (qa ot)<|js (qk ot oi)<|js (qb ot)<|jn<|bn<|bn<|mt (hB86 _ rfl)
    ·cases hs85
     cases (hE87 _ rfl)
     exact cx<|tx<|tx<|bx<|mt (hK83 _ rfl)
  ·refine cb<|JC.loop _ (fun s56=>[(1, BP 1 0), (28, D (RArr 2 (RSlice R_api_Out)) ([api_Router.Out a0, api_Router.Given a0] : (List (List api_Out)))), (29, D (RInt .i64) s56)]) (fun s56=>[(1, Box R_api_Router 28 a0)]) _ ?_ _ hl49 ml
   intro v32 r55 _ hs52 hB53 hE54
   try dsimp only at hs52
   refine sr<|js (qh ot oi)<|nt<|cs<|cn ot hs52 (fun hc103 hs52=>?_) fun hc103 hs52=>?_
   ·obtain ⟨hb104,hs52⟩ :=og hs52
    obtain ⟨hb110,hs52⟩ :=og hs52
    refine ck<|tn<|cs<|cb<|sr<|js (vq ot ot u183 ty25 hb104)<|js (qb ot)<|nt<|cs<|cd [32,33,34,35,36,37,38,39,40,41,42,43,44,45,46,47] mixed [⟨[(4, D (RSlice R_api_Out) (nth ([api_Router.Out a0, api_Router.Given a0] : (List (List api_Out))) v32))], [(32, D (RSlice R_api_Out) (nth ([api_Router.Out a0, api_Router.Given a0] : (List (List api_Out))) v32))], [], [], []⟩,⟨[(32, D (RSlice R_api_Out) (nth ([api_Router.Out a0, api_Router.Given a0] : (List (List api_Out))) v32))], [(33, D (RInt .i64) (List.length (nth ([api_Router.Out a0, api_Router.Given a0] : (List (List api_Out))) v32) : Int))], [], [], []⟩,⟨[(33, D (RInt .i64) (List.length (nth ([api_Router.Out a0, api_Router.Given a0] : (List (List api_Out))) v32) : Int))], [(34, D RBool (decide ((List.length (nth ([api_Router.Out a0, api_Router.Given a0] : (List (List api_Out))) v32) : Int) > (0 : Int))))], [], [], []⟩,⟨[(34, D RBool (decide ((List.length (nth ([api_Router.Out a0, api_Router.Given a0] : (List (List api_Out))) v32) : Int) > (0 : Int))))], [(35, D RBool (decide ((List.length (nth ([api_Router.Out a0, api_Router.Given a0] : (List (List api_Out))) v32) : Int) > (0 : Int))))], [], [], []⟩,⟨[(35, D RBool (decide ((List.length (nth ([api_Router.Out a0, api_Router.Given a0] : (List (List api_Out))) v32) : Int) > (0 : Int)))), (4, D (RSlice R_api_Out) (nth ([api_Router.Out a0, api_Router.Given a0] : (List (List api_Out))) v32))], [(36, Ent.when ((decide ((List.length (nth ([api_Router.Out a0, api_Router.Given a0] : (List (List api_Out))) v32) : Int) > (0 : Int))) = true) (D (RSlice R_api_Out) (nth ([api_Router.Out a0, api_Router.Given a0] : (List (List api_Out))) v32)))], [], [], []⟩,⟨[(35, D RBool (decide ((List.length (nth ([api_Router.Out a0, api_Router.Given a0] : (List (List api_Out))) v32) : Int) > (0 : Int)))), (4, D (RSlice R_api_Out) (nth ([api_Router.Out a0, api_Router.Given a0] : (List (List api_Out))) v32))], [(37, Ent.when ((decide ((List.length (nth ([api_Router.Out a0, api_Router.Given a0] : (List (List api_Out))) v32) : Int) > (0 : Int))) = true) (D (RSlice R_api_Out) (nth ([api_Router.Out a0, api_Router.Given a0] : (List (List api_Out))) v32)))], [], [], []⟩,⟨[(35, D RBool (decide ((List.length (nth ([api_Router.Out a0, api_Router.Given a0] : (List (List api_Out))) v32) : Int) > (0 : Int)))), (37, Ent.when ((decide ((List.length (nth ([api_Router.Out a0, api_Router.Given a0] : (List (List api_Out))) v32) : Int) > (0 : Int))) = true) (D (RSlice R_api_Out) (nth ([api_Router.Out a0, api_Router.Given a0] : (List (List api_Out))) v32)))], [(38, Ent.when ((decide ((List.length (nth ([api_Router.Out a0, api_Router.Given a0] : (List (List api_Out))) v32) : Int) > (0 : Int))) = true) (D (RInt .i64) (List.length (nth ([api_Router.Out a0, api_Router.Given a0] : (List (List api_Out))) v32) : Int)))], [], [], []⟩,⟨[(35, D RBool (decide ((List.length (nth ([api_Router.Out a0, api_Router.Given a0] : (List (List api_Out))) v32) : Int) > (0 : Int)))), (38, Ent.when ((decide ((List.length (nth ([api_Router.Out a0, api_Router.Given a0] : (List (List api_Out))) v32) : Int) > (0 : Int))) = true) (D (RInt .i64) (List.length (nth ([api_Router.Out a0, api_Router.Given a0] : (List (List api_Out))) v32) : Int)))], [(39, Ent.when ((decide ((List.length (nth ([api_Router.Out a0, api_Router.Given a0] : (List (List api_Out))) v32) : Int) > (0 : Int))) = true) (D (RInt .i64) (IntKind.i64.wrap ((List.length (nth ([api_Router.Out a0, api_Router.Given a0] : (List (List api_Out))) v32) : Int) - (1 : Int)))))], [], [], []⟩,⟨[(35, D RBool (decide ((List.length (nth ([api_Router.Out a0, api_Router.Given a0] : (List (List api_Out))) v32) : Int) > (0 : Int)))), (36, Ent.when ((decide ((List.length (nth ([api_Router.Out a0, api_Router.Given a0] : (List (List api_Out))) v32) : Int) > (0 : Int))) = true) (D (RSlice R_api_Out) (nth ([api_Router.Out a0, api_Router.Given a0] : (List (List api_Out))) v32))), (39, Ent.when ((decide ((List.length (nth ([api_Router.Out a0, api_Router.Given a0] : (List (List api_Out))) v32) : Int) > (0 : Int))) = true) (D (RInt .i64) (IntKind.i64.wrap ((List.length (nth ([api_Router.Out a0, api_Router.Given a0] : (List (List api_Out))) v32) : Int) - (1 : Int)))))], [(40, Ent.when ((decide ((List.length (nth ([api_Router.Out a0, api_Router.Given a0] : (List (List api_Out))) v32) : Int) > (0 : Int))) = true) (D (RPtr R_api_Out) (nth (nth ([api_Router.Out a0, api_Router.Given a0] : (List (List api_Out))) v32) (IntKind.i64.wrap ((List.length (nth ([api_Router.Out a0, api_Router.Given a0] : (List (List api_Out))) v32) : Int) - (1 : Int))))))], [], [], []⟩,⟨[(35, D RBool (decide ((List.length (nth ([api_Router.Out a0, api_Router.Given a0] : (List (List api_Out))) v32) : Int) > (0 : Int)))), (40, Ent.when ((decide ((List.length (nth ([api_Router.Out a0, api_Router.Given a0] : (List (List api_Out))) v32) : Int) > (0 : Int))) = true) (D (RPtr R_api_Out) (nth (nth ([api_Router.Out a0, api_Router.Given a0] : (List (List api_Out))) v32) (IntKind.i64.wrap ((List.length (nth ([api_Router.Out a0, api_Router.Given a0] : (List (List api_Out))) v32) : Int) - (1 : Int))))))], [(41, Ent.when ((decide ((List.length (nth ([api_Router.Out a0, api_Router.Given a0] : (List (List api_Out))) v32) : Int) > (0 : Int))) = true) (D (RPtr (RInt .u64)) (api_Out.Id (nth (nth ([api_Router.Out a0, api_Router.Given a0] : (List (List api_Out))) v32) (IntKind.i64.wrap ((List.length (nth ([api_Router.Out a0, api_Router.Given a0] : (List (List api_Out))) v32) : Int) - (1 : Int)))))))], [], [], []⟩,⟨[(35, D RBool (decide ((List.length (nth ([api_Router.Out a0, api_Router.Given a0] : (List (List api_Out))) v32) : Int) > (0 : Int)))), (41, Ent.when ((decide ((List.length (nth ([api_Router.Out a0, api_Router.Given a0] : (List (List api_Out))) v32) : Int) > (0 : Int))) = true) (D (RPtr (RInt .u64)) (api_Out.Id (nth (nth ([api_Router.Out a0, api_Router.Given a0] : (List (List api_Out))) v32) (IntKind.i64.wrap ((List.length (nth ([api_Router.Out a0, api_Router.Given a0] : (List (List api_Out))) v32) : Int) - (1 : Int)))))))], [(42, Ent.when ((decide ((List.length (nth ([api_Router.Out a0, api_Router.Given a0] : (List (List api_Out))) v32) : Int) > (0 : Int))) = true) (D (RInt .u64) (api_Out.Id (nth (nth ([api_Router.Out a0, api_Router.Given a0] : (List (List api_Out))) v32) (IntKind.i64.wrap ((List.length (nth ([api_Router.Out a0, api_Router.Given a0] : (List (List api_Out))) v32) : Int) - (1 : Int)))))))], [], [], []⟩,⟨[(35, D RBool (decide ((List.length (nth ([api_Router.Out a0, api_Router.Given a0] : (List (List api_Out))) v32) : Int) > (0 : Int)))), (1, BP 1 0)], [(43, Ent.when ((decide ((List.length (nth ([api_Router.Out a0, api_Router.Given a0] : (List (List api_Out))) v32) : Int) > (0 : Int))) = true) (BP 1 4))], [], [], []⟩,⟨[(35, D RBool (decide ((List.length (nth ([api_Router.Out a0, api_Router.Given a0] : (List (List api_Out))) v32) : Int) > (0 : Int)))), (43, Ent.when ((decide ((List.length (nth ([api_Router.Out a0, api_Router.Given a0] : (List (List api_Out))) v32) : Int) > (0 : Int))) = true) (BP 1 4))], [(44, Ent.when ((decide ((List.length (nth ([api_Router.Out a0, api_Router.Given a0] : (List (List api_Out))) v32) : Int) > (0 : Int))) = true) (D (RInt .i64) (api_Router.Total a0)))], [(1, Box R_api_Router 28 a0)], [], []⟩,⟨[(35, D RBool (decide ((List.length (nth ([api_Router.Out a0, api_Router.Given a0] : (List (List api_Out))) v32) : Int) > (0 : Int)))), (44, Ent.when ((decide ((List.length (nth ([api_Router.Out a0, api_Router.Given a0] : (List (List api_Out))) v32) : Int) > (0 : Int))) = true) (D (RInt .i64) (api_Router.Total a0)))], [(45, Ent.when ((decide ((List.length (nth ([api_Router.Out a0, api_Router.Given a0] : (List (List api_Out))) v32) : Int) > (0 : Int))) = true) (D (RInt .u64) (IntKind.u64.wrap (api_Router.Total a0))))], [], [], []⟩,⟨[(35, D RBool (decide ((List.length (nth ([api_Router.Out a0, api_Router.Given a0] : (List (List api_Out))) v32) : Int) > (0 : Int)))), (42, Ent.when ((decide ((List.length (nth ([api_Router.Out a0, api_Router.Given a0] : (List (List api_Out))) v32) : Int) > (0 : Int))) = true) (D (RInt .u64) (api_Out.Id (nth (nth ([api_Router.Out a0, api_Router.Given a0] : (List (List api_Out))) v32) (IntKind.i64.wrap ((List.length (nth ([api_Router.Out a0, api_Router.Given a0] : (List (List api_Out))) v32) : Int) - (1 : Int))))))), (45, Ent.when ((decide ((List.length (nth ([api_Router.Out a0, api_Router.Given a0] : (List (List api_Out))) v32) : Int) > (0 : Int))) = true) (D (RInt .u64) (IntKind.u64.wrap (api_Router.Total a0))))], [(46, Ent.when ((decide ((List.length (nth ([api_Router.Out a0, api_Router.Given a0] : (List (List api_Out))) v32) : Int) > (0 : Int))) = true) (D RBool (decide ((api_Out.Id (nth (nth ([api_Router.Out a0, api_Router.Given a0] : (List (List api_Out))) v32) (IntKind.i64.wrap ((List.length (nth ([api_Router.Out a0, api_Router.Given a0] : (List (List api_Out))) v32) : Int) - (1 : Int))))) > (IntKind.u64.wrap (api_Router.Total a0))))))], [], [], []⟩,⟨[(35, D RBool (decide ((List.length (nth ([api_Router.Out a0, api_Router.Given a0] : (List (List api_Out))) v32) : Int) > (0 : Int)))), (46, Ent.when ((decide ((List.length (nth ([api_Router.Out a0, api_Router.Given a0] : (List (List api_Out))) v32) : Int) > (0 : Int))) = true) (D RBool (decide ((api_Out.Id (nth (nth ([api_Router.Out a0, api_Router.Given a0] : (List (List api_Out))) v32) (IntKind.i64.wrap ((List.length (nth ([api_Router.Out a0, api_Router.Given a0] : (List (List api_Out))) v32) : Int) - (1 : Int))))) > (IntKind.u64.wrap (api_Router.Total a0))))))], [(47, D RBool ((decide ((List.length (nth ([api_Router.Out a0, api_Router.Given a0] : (List (List api_Out))) v32) : Int) > (0 : Int))) && (decide ((api_Out.Id (nth (nth ([api_Router.Out a0, api_Router.Given a0] : (List (List api_Out))) v32) (IntKind.i64.wrap ((List.length (nth ([api_Router.Out a0, api_Router.Given a0] : (List (List api_Out))) v32) : Int) - (1 : Int))))) > (IntKind.u64.wrap (api_Router.Total a0))))))], [], [], []⟩] (al (fun _ _ h k f=>gu (qa (ot h.1)))<|al (fun _ _ h k f=>gu (qf (ot h.1) u25))<|al (fun _ _ h k f=>gu (qs (ot h.1) oi))<|al (fun _ _ h k f=>gu (qa (ot h.1)))<|al (fun _ _ h k f=>gg h.1 fun hg105=>qa (ot h.2.1))<|al (fun _ _ h k f=>gg h.1 fun hg106=>qa (ot h.2.1))<|al (fun _ _ h k f=>gg h.1 fun hg107=>qf (ow hg107 h.2.1) u25)<|al (fun _ _ h k f=>gg h.1 fun hg108=>qE (ow hg108 h.2.1) oi)<|al (fun _ _ h k f=>gg h.1 fun hg109=>qj (ow hg109 h.2.1) (ow hg109 h.2.2.1) u25 ty88 (hb110 hg109))<|al (fun _ _ h k f=>gg h.1 fun hg111=>qx (ow hg111 h.2.1) (fp pl88) fo_api_Out_0)<|al (fun _ _ h k f=>gg h.1 fun hg112=>qi (ow hg112 h.2.1) ty46)<|al (fun _ _ h k f=>gg h.1 fun hg113=>qc (off:=4) (ot h.2.1) (fp pl28))<|al (fun _ _ h k f=>gg h.1 fun hg114=>qd (get:=fun d => api_Router.Total d) (ow hg114 h.2.1) fo_api_Router_4 ty3 (hi:=k.1))<|al (fun _ _ h k f=>gg h.1 fun hg115=>qA (ow hg115 h.2.1) u3 u46)<|al (fun _ _ h k f=>gg h.1 fun hg116=>qs (ow hg116 h.2.1) (ow hg116 h.2.2.1))<|al (fun _ _ h k f=>gu (ql (ot h.1) (fun hk117 => ow hk117 h.2.1)))<|an)<|jv [1,28,29,47] [1] ?_
    refine nt<|cn ot hs52 (fun hc118 hs52=>?_) fun hc118 hs52=>?_
    ·cases hs52
     cases (hE54 _ rfl)
     cases hm
     exact sr<|js (qb oB)<|nt<|ct<|br<|tr<|tr<|br<|tr<|tr<|JE.retA rfl (RvOK.tmp rfl)
    ·cases hs52
     exact ck<|bn<|tn<|cr<|js (qk ot oi)<|js (qa ot)<|jn<|mt (hB53 _ rfl)
   ·cases hs52
    cases (hE54 _ rfl)
    exact cx<|tx<|tx<|bx<|mt (hK50 _ rfl)
theorem route_place_1_con (a0 c0 r) (hm : route_place_1 a0 c0 = r) : PC 174 [D R_api_Sub a0,D (RPtr RStr) c0] (D RBool r) := by
 refine PI func174 fun w O=>?_
 unfold route_place_1 at hm
 cases hm
 exact sr<|js (qq (i:=1) ot)<|js (qb oB)<|nt<|sr<|js (qc ot (fp pl66))<|js (qc ot (fp pl45))<|js (qd ot (FieldOf.comp fo_api_Sub_0 fo_api_Def_0) ty9)<|js (qi ot ty9)<|js (qz ot ot)<|js (qb ot)<|nt<|ct<|JE.retA rfl (RvOK.tmp rfl)
theorem slices_IndexFunc_api_Sub_api_Sub__route_place_1_con (a0 a1_0 r) (hm : slices_IndexFunc_api_Sub_api_Sub__route_place_1 a0 a1_0 = some r) : PC 173 [D (RSlice R_api_Sub) a0,FV 174 [D (RPtr RStr) a1_0]] (D (RInt .i64) r) := by
 refine PI func173 fun w O=>?_
 unfold slices_IndexFunc_api_Sub_api_Sub__route_place_1 at hm
 obtain ⟨e10,hl8,hm⟩ :=ob hm
 refine sr<|js (qb oi)<|nt<|cs<|sr<|js (qa ot)<|js (qf ot u24)<|js (qa oi)<|nt<|JC.joinS e10 (fun s16=>[]) (fun s16=>[]) (fun s16 he=>?_) (fun _ hK9=>?_)
 ·cases he
  try dsimp only at hm
  cases hm
  exact tn<|sr<|js (qb oi)<|nt<|ct<|JE.retA rfl (RvOK.tmp rfl)
 ·refine cb<|JC.loop _ (fun s15=>[(0, D (RSlice R_api_Sub) a0), (1, FV 174 [D (RPtr RStr) a1_0]), (7, D (RInt .i64) (List.length a0 : Int)), (8, D (RInt .i64) s15)]) (fun s15=>[]) _ ?_ _ hl8 ml
  intro v4 r14 _ hs11 hB12 hE13
  try dsimp only at hs11
  refine sr<|js (qh ot ot)<|nt<|cs<|cn ot hs11 (fun hc17 hs11=>?_) fun hc17 hs11=>?_
  ·obtain ⟨hb18,hs11⟩ :=og hs11
   refine ck<|tn<|cs<|cb<|sr<|js (qa ot)<|js (qb ot)<|nt<|sr<|js (qa ot)<|js (qa ot)<|js (qa ot)<|js (qj ot ot u24 ty66 hb18)<|js (qi ot ty66)<|js (qL (F:=[]) ot (route_place_1_con (nth a0 v4) a1_0 _ rfl) call174 (ze zn) (FzE.dat FzE.nil) WI.bool)<|nt<|cn ot hs11 (fun hc19 hs11=>?_) fun hc19 hs11=>?_
   ·cases hs11
    cases (hE13 _ rfl)
    cases hm
    exact sr<|js (qa ot)<|js (qb ot)<|nt<|ct<|br<|tr<|tr<|br<|tr<|tr<|JE.retA rfl (RvOK.tmp rfl)
   ·cases hs11
    exact ck<|bn<|tn<|cr<|js (qk ot oi)<|js (qa ot)<|jn<|mt (hB12 _ rfl)
  ·cases hs11
   cases (hE13 _ rfl)
   exact cx<|tx<|tx<|bx<|mt (hK9 _ rfl)
theorem route_place_con (a0 a1 r) (hm : route_place a0 a1 = some r) : PC 117 [D (RSlice R_api_Sub) a0,D RStr a1] (D (RInt .i64) r) := by
 refine PI func117 fun w O=>?_
 unfold route_place at hm
 obtain ⟨x1,hx2,hm⟩ :=ob hm
 cases hm
 exact sr<|js (qq (i:=1) ot)<|js (qb oi)<|nt<|sr<|js (qa ot)<|js (qR (Caps.cons ot (Caps.nil (xs := []))))<|js (qL (F:=[1]) oF (slices_IndexFunc_api_Sub_api_Sub__route_place_1_con a0 a1 _ hx2) call173 (ze (zc (OpdF.fv ot (FzE.bp rfl FieldOf.self rfl FzE.nil)) zn)) FzE.nil WI.int)<|js (qb ot)<|nt<|ct<|JE.retA rfl (RvOK.tmp rfl)
theorem route_mayDead_con (a0 r) (hm : route_mayDead a0 = some r) : PC 62 [D R_api_Router a0] (D RBool r) := by
 refine PI func62 fun w O=>?_
 unfold route_mayDead at hm
 refine sr<|js (qq (i:=1) ot)<|js (qb oB)<|nt<|cs<|sr<|js (qc ot (fp pl28))<|js (qd ot fo_api_Router_7 ty26)<|js (qf ot u26)<|js (qs ot oi)<|nt<|cn ot hm (fun hc1 hm=>?_) fun hc1 hm=>?_
 ·cases hm
  exact sr<|js (qb oB)<|nt<|ct<|tr<|JE.retA rfl (RvOK.tmp rfl)
 ·obtain ⟨e45,hl43,hm⟩ :=ob hm
  refine ck<|tn<|cs<|sr<|js (qc ot (fp pl28))<|js (qd ot fo_api_Router_7 ty26)<|js (qf ot u26)<|js (qa oi)<|nt<|JC.joinS e45 (fun s51=>[]) (fun s51=>[]) (fun s51 he=>?_) (fun _ hK44=>?_)
  ·cases he
   try dsimp only at hm
   cases hm
   exact tn<|sr<|js (qb oB)<|nt<|ct<|JE.retA rfl (RvOK.tmp rfl)
  ·refine cb<|JC.loop _ (fun s50=>[(1, BP 1 0), (13, D (RSlice R_api_Dead) (api_Router.Dead a0)), (14, D (RInt .i64) (List.length (api_Router.Dead a0) : Int)), (15, D (RInt .i64) s50)]) (fun s50=>[(1, Box R_api_Router 28 a0)]) _ ?_ _ hl43 ml
   intro v22 r49 _ hs46 hB47 hE48
   try dsimp only at hs46
   refine sr<|js (qh ot ot)<|nt<|cs<|cn ot hs46 (fun hc52 hs46=>?_) fun hc52 hs46=>?_
   ·obtain ⟨hb53,hs46⟩ :=og hs46
    obtain ⟨x54,hx55,hs46⟩ :=ob hs46
    obtain ⟨x67,hx68,hs46⟩ :=ob hs46
    refine ck<|tn<|cs<|cb<|sr<|js (qj ot ot u26 ty72 hb53)<|js (qi ot ty72)<|js (qp (i:=6) zero72)<|js (qo ot ot ty72)<|nt<|sr<|js (qc ot (fp pl72))<|js (qd ot fo_api_Dead_1 ty9)<|js (qe oF (event_Take_con (api_Dead.E (nth (api_Router.Dead a0) v22)) _ hx55) call116 (ze zn))<|js (qa ot)<|js (qu ot)<|js (qu ot)<|js (qu ot)<|js (qp (i:=7) zero92)<|js (qo ot ot ty92)<|js (qb ot)<|js (qb ot)<|nt<|sr<|js (qa ot)<|js (qw ot oi)<|js (qa ot)<|jg (fun hg56=>qa ot)<|jg (fun hg57=>qc ot (fp pl72))<|jg (fun hg58=>qd (ow hg58) fo_api_Dead_1 ty9)<|jg (fun hg59=>qD (ow hg59) u9)<|jg (fun hg60=>qw (ow hg60) (ow hg60))<|js (qm ot (fun hk61 => ow hk61))<|js (qa ot)<|jg (fun hg62=>qc ot (fp pl28))<|jg (fun hg63=>qd (ow hg63) fo_api_Router_3 ty24)<|jg (fun hg64=>qc ot (fp pl72))<|jg (fun hg65=>qd (ow hg65) fo_api_Dead_0 ty9)<|jg (fun hg66=>qe oF (route_place_con (api_Router.Subs a0) (api_Dead.Sub (nth (api_Router.Dead a0) v22)) _ (of_pos hg66 hx68)) call117 (zc (zo (ow hg66)) (zc (zo (ow hg66)) zn)))<|jg (fun hg69=>qh (ow hg69) oi)<|js (qm ot (fun hk70 => ow hk70))<|nt<|cn ot hs46 (fun hc71 hs46=>?_) fun hc71 hs46=>?_
    ·cases hs46
     cases (hE48 _ rfl)
     cases hm
     exact sr<|js (qb oB)<|nt<|ct<|br<|tr<|tr<|br<|tr<|tr<|JE.retA rfl (RvOK.tmp rfl)
    ·cases hs46
     exact ck<|bn<|tn<|cr<|js (qk ot oi)<|js (qa ot)<|jn<|mt (hB47 _ rfl)
   ·cases hs46
    cases (hE48 _ rfl)
    exact cx<|tx<|tx<|bx<|mt (hK44 _ rfl)
theorem route_Check_con (a0 r) (hm : route_Check a0 = some r) : PC 25 [D R_api_Router a0] (D (RInt .i64) r) := by
 refine PI func25 fun w O=>?_
 unfold route_Check at hm
 obtain ⟨x8,hx9,hm⟩ :=ob hm
 obtain ⟨x15,hx16,hm⟩ :=ob hm
 refine sr<|js (qq (i:=1) ot)<|js (qb oi)<|nt<|cs<|sr<|js (qc ot (fp pl28))<|js (qd ot fo_api_Router_0 ty3)<|js (qh ot oi)<|js (qa ot)<|jg (fun hg1=>qc ot (fp pl28))<|jg (fun hg2=>qd (ow hg2) fo_api_Router_0 ty3)<|jg (fun hg3=>qs (ow hg3) oi)<|js (qm ot (fun hk4 => ow hk4))<|js (qa ot)<|jg (fun hg5=>qc ot (fp pl28))<|jg (fun hg6=>qd (ow hg6) fo_api_Router_1 ty22)<|jg (fun hg7=>qe oF (topic_Check_con (api_Router.Topics a0) _ (of_pos hg7 hx9)) call58 (zc (zo (ow hg7)) zn))<|jg (fun hg10=>qw (ow hg10) oi)<|js (qm ot (fun hk11 => ow hk11))<|js (qa ot)<|jg (fun hg12=>qc ot (fp pl28))<|jg (fun hg13=>qd (ow hg13) fo_api_Router_2 ty23)<|jg (fun hg14=>qe oF (dedup_Check_con (api_Router.Lasts a0) _ (of_pos hg14 hx16)) call59 (zc (zo (ow hg14)) zn))<|jg (fun hg17=>qw (ow hg17) oi)<|js (qm ot (fun hk18 => ow hk18))<|nt<|cn ot hm (fun hc19 hm=>?_) fun hc19 hm=>?_
 ·cases hm
  exact sr<|js (qb oi)<|nt<|ct<|tr<|JE.retA rfl (RvOK.tmp rfl)
 ·obtain ⟨x20,hx21,hm⟩ :=ob hm
  obtain ⟨x24,hx25,hm⟩ :=ob hm
  obtain ⟨x30,hx31,hm⟩ :=ob hm
  refine ck<|tn<|cs<|sr<|js (qn ot ty28)<|js (qe oF (route_maySubs_con a0 _ hx21) call60 (ze zn))<|js (qr ot)<|js (qa ot)<|jg (fun hg22=>qn ot ty28)<|jg (fun hg23=>qe oF (route_mayOut_con a0 _ (of_pos hg23 hx25)) call61 (zc (zo (ow hg23)) zn))<|jg (fun hg26=>qr (ow hg26))<|js (qm ot (fun hk27 => ow hk27))<|js (qa ot)<|jg (fun hg28=>qn ot ty28)<|jg (fun hg29=>qe oF (route_mayDead_con a0 _ (of_pos hg29 hx31)) call62 (zc (zo (ow hg29)) zn))<|jg (fun hg32=>qr (ow hg32))<|js (qm ot (fun hk33 => ow hk33))<|nt<|cn ot hm (fun hc34 hm=>?_) fun hc34 hm=>?_
  ·cases hm
   exact sr<|js (qb oi)<|nt<|ct<|tr<|JE.retA rfl (RvOK.tmp rfl)
  ·cases hm
   exact ck<|tn<|sr<|js (qb oi)<|nt<|ct<|JE.retA rfl (RvOK.tmp rfl)
theorem num_Fold_con (a0 r) (hm : num_Fold a0 = r) : PC 118 [D (RInt .i64) a0] (D (RInt .u64) r) := by
 refine PI func118 fun w O=>?_
 unfold num_Fold at hm
 refine sr<|js (qb oi)<|nt<|cs<|sr<|js (qa ot)<|js (qI ot oi)<|nt<|cn ot hm (fun hc1 hm=>?_) fun hc1 hm=>?_
 ·cases hm
  exact sr<|js (qa ot)<|js (qA ot u2 u46)<|js (vi ot oi (by decide))<|js (qb ot)<|nt<|ct<|tr<|JE.retA rfl (RvOK.tmp rfl)
 ·cases hm
  exact ck<|tn<|sr<|js (qa ot)<|js (qk ot oi)<|js (vv ot)<|js (qA ot u2 u46)<|js (vi ot oi (by decide))<|js (qk ot oi)<|js (qb ot)<|nt<|ct<|JE.retA rfl (RvOK.tmp rfl)
theorem num_Pack_con (a0 r) (hm : num_Pack a0 = some r) : PC 155 [D (RInt .u64) a0] (D RStr r) := by
 refine PI func155 fun w O=>?_
 unfold num_Pack at hm
 obtain ⟨hb1,hm⟩ :=og hm
 obtain ⟨⟨v8,v9⟩,hl10,hm⟩ :=ob hm
 refine sr<|js (qb oS)<|nt<|sr<|js (vh (j:=1) oi oi u75 sl5 zero5 hb1)<|js (qb ot)<|nt<|cs<|JC.join [(0, D (RInt .u64) v8), (3, OS 1)] [(1, OwnSl (RInt .u8) 5 v9)] ?_ (fun _ hK11=>?_)
 ·obtain ⟨hb19,hm⟩ :=og hm
  refine tn<|sr<|js (qa ot)<|js (qa ot)<|js (qA ot u46 u5)<|js (qC u75 ty5 hz5 (.cons ot .nil))<|js (qB (j:=4) ot ot u75 sl5 hb19) ?_
  refine JL.imp (Imp.frz 4 (ts := [19]) rfl (.cons rfl .nil)) ?_
  cases hm
  exact js (va ot u75 u5 u9)<|js (qb ot)<|nt<|ct<|JE.retA rfl (RvOK.tmp rfl)
 ·refine cb<|JC.loop _ (fun s17=>[(0, D (RInt .u64) s17.1), (3, OS 1)]) (fun s17=>[(1, OwnSl (RInt .u8) 5 s17.2)]) _ ?_ _ hl10 ml
  intro s17 r16 _ hs13 hB14 hE15
  obtain ⟨v4, v5⟩ := s17
  try dsimp only at hs13
  refine cs<|sr<|js (qa ot)<|js (qI ot oi)<|nt<|cn ot hs13 (fun hc20 hs13=>?_) fun hc20 hs13=>?_
  ·obtain ⟨hb21,hs13⟩ :=og hs13
   cases hs13
   refine ck<|tn<|cb<|sr<|js (qa ot)<|js (qa ot)<|js (qA ot u46 u5)<|js (vz ot oi)<|js (qC u75 ty5 hz5 (.cons ot .nil))<|js (qB (j:=5) ot ot u75 sl5 hb21)<|js (qb ot)<|nt<|cr<|js (qa ot)<|js (vk ot oi)<|js (qb ot)<|jn<|bn ?_
   exact JE.meetR [(1, 5)] (hB14 _ rfl) (by decide) (by decide) (CVR.cons (t := 0) rfl Ren.dat (CVR.cons (t := 3) rfl (Ren.os rfl) CVR.nil)) (OVR.cons (i := 5) rfl RenO.sl OVR.nil)
  ·cases hs13
   cases (hE15 _ rfl)
   exact cx<|tx<|tx<|bx<|mt hK11
theorem shelf_pen_id_o0_con (a1 o0 r) (hm : shelf_pen_id_o0 a1 o0 = some r) : SC 105 [(0,Bld 79 o0)] [BP 0 0,D (RInt .u64) a1] [(0,Bld 79 r)] (TUP []) := by
 refine SI func105 (fun gs=>[(0, BldAt (IsV (gs 0)) 79 o0)]) (fun gs=>(.bld .nil)) fun w O gs own hk=>?_
 unfold shelf_pen_id_o0 at hm
 obtain ⟨x1,hx2,hm⟩ :=ob hm
 obtain ⟨x3,hx4,hm⟩ :=ob hm
 refine cd [4,5,6,7,8,9] mixed [⟨[(0, BP 0 0)], [(4, BP 0 0)], [], [], []⟩,⟨[(4, BP 0 0)], [(5, BP 0 0)], [], [], []⟩,⟨[(5, BP 0 0)], [(6, BP 0 0)], [], [], []⟩,⟨[(1, D (RInt .u64) a1)], [(7, D (RInt .u64) a1)], [], [], []⟩,⟨[(7, D (RInt .u64) a1)], [(8, D RStr x1)], [], [], []⟩,⟨[(6, BP 0 0), (8, D RStr x1)], [(9, TUP [D (RInt .i64) x3.1, D RNilI x3.2.1])], [(0, BldAt (IsV (gs 0)) 79 o0)], [(0, BldAt (IsV (gs 0)) 79 x3.2.2)], []⟩] (al (fun _ _ h k f=>gu (qa (ot h.1)))<|al (fun _ _ h k f=>gu (qt (ot h.1)))<|al (fun _ _ h k f=>gu (qc (off:=0) (ot h.1) (fp pl79)))<|al (fun _ _ h k f=>gu (qa (ot h.1)))<|al (fun _ _ h k f=>gu (qe oF (num_Pack_con a1 _ hx2) call155 (zc (zo (ot h.1)) zn)))<|al (fun _ _ h k f=>gu (qg (σ:=[(0, 0)]) oF (strings_Builder_WriteString_con bld79 (by decide) x1 o0 _ hx4) call153 (.cons (ot h.1) (Ren.bp rfl) (.cons (ot h.2.1) Ren.dat .nil)) .nil (.bld k.1 .nil) (RenB.tup (.cons (.cons .nil)))))<|an)<|jv [] [0] ?_
 cases hm
 exact jn<|JE.end0<|JE.retS0 hk (.bld rfl .nil) (.bld rfl .nil) rfl
theorem shelf_pen_number_o0_con (a1 o0 r) (hm : shelf_pen_number_o0 a1 o0 = some r) : SC 63 [(0,Bld 79 o0)] [BP 0 0,D (RInt .i64) a1] [(0,Bld 79 r)] (TUP []) := by
 refine SI func63 (fun gs=>[(0, BldAt (IsV (gs 0)) 79 o0)]) (fun gs=>(.bld .nil)) fun w O gs own hk=>?_
 unfold shelf_pen_number_o0 at hm
 obtain ⟨x1,hx2,hm⟩ :=ob hm
 cases hm
 exact cr<|js (qa ot)<|js (qa ot)<|js (qe oF (num_Fold_con a1 _ rfl) call118 (ze zn))<|js (qg (σ:=[(0, 0)]) oF (shelf_pen_id_o0_con (num_Fold a1) o0 _ hx2) call105 (.cons ot (Ren.bp rfl) (.cons ot Ren.dat .nil)) .nil (.bld rfl .nil) (RenB.tup .nil))<|jn<|JE.end0<|JE.retS0 hk (.bld rfl .nil) (.bld rfl .nil) rfl
theorem shelf_pen_text_o0_con (a1 o0 r) (hm : shelf_pen_text_o0 a1 o0 = some r) : SC 103 [(0,Bld 79 o0)] [BP 0 0,D RStr a1] [(0,Bld 79 r)] (TUP []) := by
 refine SI func103 (fun gs=>[(0, BldAt (IsV (gs 0)) 79 o0)]) (fun gs=>(.bld .nil)) fun w O gs own hk=>?_
 unfold shelf_pen_text_o0 at hm
 obtain ⟨x1,hx2,hm⟩ :=ob hm
 obtain ⟨x3,hx4,hm⟩ :=ob hm
 cases hm
 exact sr<|js (qa ot)<|js (qa ot)<|js (qD ot u9)<|js (qA ot u3 u46)<|js (qg (σ:=[(0, 0)]) oF (shelf_pen_id_o0_con (IntKind.u64.wrap (List.length a1 : Int)) o0 _ hx2) call105 (.cons ot (Ren.bp rfl) (.cons ot Ren.dat .nil)) .nil (.bld rfl .nil) (RenB.tup .nil))<|nt<|cr<|js (qa ot)<|js (qt ot)<|js (qc ot (fp pl79))<|js (qa ot)<|js (qg (σ:=[(0, 0)]) oF (strings_Builder_WriteString_con bld79 (by decide) a1 x1 _ hx4) call153 (.cons ot (Ren.bp rfl) (.cons ot Ren.dat .nil)) .nil (.bld rfl .nil) (RenB.tup (.cons (.cons .nil))))<|jn<|JE.end0<|JE.retS0 hk (.bld rfl .nil) (.bld rfl .nil) rfl
theorem shelf_list_string_o0__shelf_pen_text_o0_con (a1 o0 r) (hm : shelf_list_string_o0__shelf_pen_text_o0 a1 o0 = some r) : SC 119 [(0,Bld 79 o0)] [BP 0 0,D (RSlice RStr) a1,BM 103 [BP 0 0]] [(0,Bld 79 r)] (TUP []) := by
 refine SI func119 (fun gs=>[(0, BldAt (IsV (gs 0)) 79 o0)]) (fun gs=>(.bld .nil)) fun w O gs own hk=>?_
 unfold shelf_list_string_o0__shelf_pen_text_o0 at hm
 obtain ⟨x1,hx2,hm⟩ :=ob hm
 obtain ⟨v13,hl14,hm⟩ :=ob hm
 refine sr<|js (qa ot)<|js (qa ot)<|js (qf ot u40)<|js (qA ot u3 u46)<|js (qg (σ:=[(0, 0)]) oF (shelf_pen_id_o0_con (IntKind.u64.wrap (List.length a1 : Int)) o0 _ hx2) call105 (.cons ot (Ren.bp rfl) (.cons ot Ren.dat .nil)) .nil (.bld rfl .nil) (RenB.tup .nil))<|nt<|sr<|js (qa ot)<|js (qf ot u40)<|js (qa oi)<|nt<|JC.join [] [(0, BldAt (IsV (gs 0)) 79 v13)] ?_ (fun _ hK15=>?_)
 ·cases hm
  exact JE.end0<|JE.retS0 hk (.bld rfl .nil) (.bld rfl .nil) rfl
 ·refine cb<|JC.loop _ (fun s21=>[(2, BM 103 [BP 0 0]), (13, D (RSlice RStr) a1), (14, D (RInt .i64) (List.length a1 : Int)), (15, D (RInt .i64) s21.1)]) (fun s21=>[(0, BldAt (IsV (gs 0)) 79 s21.2)]) _ ?_ _ hl14 ml
  intro s21 r20 _ hs17 hB18 hE19
  obtain ⟨v7, v8⟩ := s21
  try dsimp only at hs17
  refine sr<|js (qh ot ot)<|nt<|cs<|cn ot hs17 (fun hc23 hs17=>?_) fun hc23 hs17=>?_
  ·obtain ⟨hb24,hs17⟩ :=og hs17
   obtain ⟨x25,hx26,hs17⟩ :=ob hs17
   cases hs17
   exact ck<|tn<|cs<|cb<|sr<|js (qj ot ot u40 ty9 hb24)<|js (qi ot ty9)<|js (qb ot)<|nt<|cr<|js (qa ot)<|js (qa ot)<|js (qH (σ:=[(0, 0)]) ot (shelf_pen_text_o0_con (nth a1 v7) v8 _ hx26) call103 (.cons ot Ren.dat .nil) (.cons (Ren.bp rfl) .nil) (.bld rfl .nil) (RenB.tup .nil))<|jn<|bn<|tn<|cr<|js (qk ot oi)<|js (qa ot)<|jn<|mt (hB18 _ rfl)
  ·cases hs17
   cases (hE19 _ rfl)
   exact cx<|tx<|tx<|bx<|mt hK15
theorem shelf_pen_topic_o0_con (a1 o0 r) (hm : shelf_pen_topic_o0 a1 o0 = some r) : SC 65 [(0,Bld 79 o0)] [BP 0 0,D R_api_Topic a1] [(0,Bld 79 r)] (TUP []) := by
 refine SI func65 (fun gs=>[(0, BldAt (IsV (gs 0)) 79 o0)]) (fun gs=>(.bld .nil)) fun w O gs own hk=>?_
 unfold shelf_pen_topic_o0 at hm
 obtain ⟨x1,hx2,hm⟩ :=ob hm
 obtain ⟨x3,hx4,hm⟩ :=ob hm
 obtain ⟨x5,hx6,hm⟩ :=ob hm
 cases hm
 exact sr<|js (qq (i:=2) ot)<|nt<|sr<|js (qa ot)<|js (qc ot (fp pl62))<|js (qd ot fo_api_Topic_0 ty9)<|js (qg (σ:=[(0, 0)]) oF (shelf_pen_text_o0_con (api_Topic.Name a1) o0 _ hx2) call103 (.cons ot (Ren.bp rfl) (.cons ot Ren.dat .nil)) .nil (.bld rfl .nil) (RenB.tup .nil))<|nt<|sr<|js (qa ot)<|js (qc ot (fp pl62))<|js (qd ot fo_api_Topic_1 ty3)<|js (qg (σ:=[(0, 0)]) oF (shelf_pen_number_o0_con (api_Topic.First a1) x1 _ hx4) call63 (.cons ot (Ren.bp rfl) (.cons ot Ren.dat .nil)) .nil (.bld rfl .nil) (RenB.tup .nil))<|nt<|cr<|js (qa ot)<|js (qc ot (fp pl62))<|js (qd ot fo_api_Topic_2 ty40)<|js (qa ot)<|js (qG (Caps.cons ot (Caps.nil (xs := []))))<|js (qg (σ:=[(0, 0)]) oF (shelf_list_string_o0__shelf_pen_text_o0_con (api_Topic.Log a1) x3 _ hx6) call119 (.cons ot (Ren.bp rfl) (.cons ot Ren.dat (.cons ot (Ren.bm (.cons (Ren.bp rfl) .nil)) .nil))) .nil (.bld rfl .nil) (RenB.tup .nil))<|jn<|JE.end0<|JE.retS0 hk (.bld rfl .nil) (.bld rfl .nil) rfl
theorem shelf_list_api_Topic_o0__shelf_pen_topic_o0_con (a1 o0 r) (hm : shelf_list_api_Topic_o0__shelf_pen_topic_o0 a1 o0 = some r) : SC 64 [(0,Bld 79 o0)] [BP 0 0,D (RSlice R_api_Topic) a1,BM 65 [BP 0 0]] [(0,Bld 79 r)] (TUP []) := by
 refine SI func64 (fun gs=>[(0, BldAt (IsV (gs 0)) 79 o0)]) (fun gs=>(.bld .nil)) fun w O gs own hk=>?_
 unfold shelf_list_api_Topic_o0__shelf_pen_topic_o0 at hm
 obtain ⟨x1,hx2,hm⟩ :=ob hm
 obtain ⟨v13,hl14,hm⟩ :=ob hm
 refine sr<|js (qa ot)<|js (qa ot)<|js (qf ot u22)<|js (qA ot u3 u46)<|js (qg (σ:=[(0, 0)]) oF (shelf_pen_id_o0_con (IntKind.u64.wrap (List.length a1 : Int)) o0 _ hx2) call105 (.cons ot (Ren.bp rfl) (.cons ot Ren.dat .nil)) .nil (.bld rfl .nil) (RenB.tup .nil))<|nt<|sr<|js (qa ot)<|js (qf ot u22)<|js (qa oi)<|nt<|JC.join [] [(0, BldAt (IsV (gs 0)) 79 v13)] ?_ (fun _ hK15=>?_)
 ·cases hm
  exact JE.end0<|JE.retS0 hk (.bld rfl .nil) (.bld rfl .nil) rfl
 ·refine cb<|JC.loop _ (fun s21=>[(2, BM 65 [BP 0 0]), (13, D (RSlice R_api_Topic) a1), (14, D (RInt .i64) (List.length a1 : Int)), (15, D (RInt .i64) s21.1)]) (fun s21=>[(0, BldAt (IsV (gs 0)) 79 s21.2)]) _ ?_ _ hl14 ml
  intro s21 r20 _ hs17 hB18 hE19
  obtain ⟨v7, v8⟩ := s21
  try dsimp only at hs17
  refine sr<|js (qh ot ot)<|nt<|cs<|cn ot hs17 (fun hc23 hs17=>?_) fun hc23 hs17=>?_
  ·obtain ⟨hb24,hs17⟩ :=og hs17
   obtain ⟨x25,hx26,hs17⟩ :=ob hs17
   cases hs17
   exact ck<|tn<|cs<|cb<|sr<|js (qj ot ot u22 ty62 hb24)<|js (qi ot ty62)<|js (qp (i:=4) zero62)<|js (qo ot ot ty62)<|nt<|cr<|js (qa ot)<|js (qn ot ty62)<|js (qH (σ:=[(0, 0)]) ot (shelf_pen_topic_o0_con (nth a1 v7) v8 _ hx26) call65 (.cons ot Ren.dat .nil) (.cons (Ren.bp rfl) .nil) (.bld rfl .nil) (RenB.tup .nil))<|jn<|bn<|tn<|cr<|js (qk ot oi)<|js (qa ot)<|jn<|mt (hB18 _ rfl)
  ·cases hs17
   cases (hE19 _ rfl)
   exact cx<|tx<|tx<|bx<|mt hK15
theorem shelf_pen_last_o0_con (a1 o0 r) (hm : shelf_pen_last_o0 a1 o0 = some r) : SC 67 [(0,Bld 79 o0)] [BP 0 0,D R_api_Last a1] [(0,Bld 79 r)] (TUP []) := by
 refine SI func67 (fun gs=>[(0, BldAt (IsV (gs 0)) 79 o0)]) (fun gs=>(.bld .nil)) fun w O gs own hk=>?_
 unfold shelf_pen_last_o0 at hm
 obtain ⟨x1,hx2,hm⟩ :=ob hm
 obtain ⟨x3,hx4,hm⟩ :=ob hm
 obtain ⟨x5,hx6,hm⟩ :=ob hm
 cases hm
 exact sr<|js (qq (i:=2) ot)<|nt<|sr<|js (qa ot)<|js (qc ot (fp pl102))<|js (qd ot fo_api_Last_0 ty9)<|js (qg (σ:=[(0, 0)]) oF (shelf_pen_text_o0_con (api_Last.Producer a1) o0 _ hx2) call103 (.cons ot (Ren.bp rfl) (.cons ot Ren.dat .nil)) .nil (.bld rfl .nil) (RenB.tup .nil))<|nt<|sr<|js (qa ot)<|js (qc ot (fp pl102))<|js (qd ot fo_api_Last_1 ty46)<|js (qg (σ:=[(0, 0)]) oF (shelf_pen_id_o0_con (api_Last.Seq a1) x1 _ hx4) call105 (.cons ot (Ren.bp rfl) (.cons ot Ren.dat .nil)) .nil (.bld rfl .nil) (RenB.tup .nil))<|nt<|cr<|js (qa ot)<|js (qc ot (fp pl102))<|js (qd ot fo_api_Last_2 ty3)<|js (qg (σ:=[(0, 0)]) oF (shelf_pen_number_o0_con (api_Last.Offset a1) x3 _ hx6) call63 (.cons ot (Ren.bp rfl) (.cons ot Ren.dat .nil)) .nil (.bld rfl .nil) (RenB.tup .nil))<|jn<|JE.end0<|JE.retS0 hk (.bld rfl .nil) (.bld rfl .nil) rfl
theorem shelf_list_api_Last_o0__shelf_pen_last_o0_con (a1 o0 r) (hm : shelf_list_api_Last_o0__shelf_pen_last_o0 a1 o0 = some r) : SC 66 [(0,Bld 79 o0)] [BP 0 0,D (RSlice R_api_Last) a1,BM 67 [BP 0 0]] [(0,Bld 79 r)] (TUP []) := by
 refine SI func66 (fun gs=>[(0, BldAt (IsV (gs 0)) 79 o0)]) (fun gs=>(.bld .nil)) fun w O gs own hk=>?_
 unfold shelf_list_api_Last_o0__shelf_pen_last_o0 at hm
 obtain ⟨x1,hx2,hm⟩ :=ob hm
 obtain ⟨v13,hl14,hm⟩ :=ob hm
 refine sr<|js (qa ot)<|js (qa ot)<|js (qf ot u23)<|js (qA ot u3 u46)<|js (qg (σ:=[(0, 0)]) oF (shelf_pen_id_o0_con (IntKind.u64.wrap (List.length a1 : Int)) o0 _ hx2) call105 (.cons ot (Ren.bp rfl) (.cons ot Ren.dat .nil)) .nil (.bld rfl .nil) (RenB.tup .nil))<|nt<|sr<|js (qa ot)<|js (qf ot u23)<|js (qa oi)<|nt<|JC.join [] [(0, BldAt (IsV (gs 0)) 79 v13)] ?_ (fun _ hK15=>?_)
 ·cases hm
  exact JE.end0<|JE.retS0 hk (.bld rfl .nil) (.bld rfl .nil) rfl
 ·refine cb<|JC.loop _ (fun s21=>[(2, BM 67 [BP 0 0]), (13, D (RSlice R_api_Last) a1), (14, D (RInt .i64) (List.length a1 : Int)), (15, D (RInt .i64) s21.1)]) (fun s21=>[(0, BldAt (IsV (gs 0)) 79 s21.2)]) _ ?_ _ hl14 ml
  intro s21 r20 _ hs17 hB18 hE19
  obtain ⟨v7, v8⟩ := s21
  try dsimp only at hs17
  refine sr<|js (qh ot ot)<|nt<|cs<|cn ot hs17 (fun hc23 hs17=>?_) fun hc23 hs17=>?_
  ·obtain ⟨hb24,hs17⟩ :=og hs17
   obtain ⟨x25,hx26,hs17⟩ :=ob hs17
   cases hs17
   exact ck<|tn<|cs<|cb<|sr<|js (qj ot ot u23 ty102 hb24)<|js (qi ot ty102)<|js (qp (i:=4) zero102)<|js (qo ot ot ty102)<|nt<|cr<|js (qa ot)<|js (qn ot ty102)<|js (qH (σ:=[(0, 0)]) ot (shelf_pen_last_o0_con (nth a1 v7) v8 _ hx26) call67 (.cons ot Ren.dat .nil) (.cons (Ren.bp rfl) .nil) (.bld rfl .nil) (RenB.tup .nil))<|jn<|bn<|tn<|cr<|js (qk ot oi)<|js (qa ot)<|jn<|mt (hB18 _ rfl)
  ·cases hs17
   cases (hE19 _ rfl)
   exact cx<|tx<|tx<|bx<|mt hK15
theorem val_Write_con (a0 r) (hm : val_Write a0 = some r) : PC 221 [D R_api_Value a0] (TUP [D RStr r.1,D (RInt .i64) r.2]) := by
 refine PI func221 fun w O=>?_
 unfold val_Write at hm
 refine sr<|js (qq (i:=1) ot)<|js (qb oS)<|js (qb oi)<|nt<|cs<|sr<|js (qn ot ty118)<|js (qe oF (val_May_con a0 _ rfl) call203 (ze zn))<|js (qr ot)<|nt<|cn ot hm (fun hc1 hm=>?_) fun hc1 hm=>?_
 ·cases hm
  exact sr<|js (qb oS)<|js (qb oi)<|nt<|ct<|tr<|JE.retB rfl (RvOK.tmp rfl) (RvOK.tmp rfl)
 ·refine ck<|tn<|cs<|sr<|js (qc ot (fp pl118))<|js (qd ot fo_api_Value_0 ty4)<|nt<|cn ot hm (fun hc2 hm=>?_) fun hc2 hm=>?_
  ·obtain ⟨x3,hx4,hm⟩ :=ob hm
   cases hm
   exact sr<|js (qc ot (fp pl118))<|js (qd ot fo_api_Value_1 ty2)<|js (qe oF (strconv_FormatInt_con (api_Value.N a0) (10 : Int) _ hx4) call235 (ze (zc (zo oi) zn)))<|js (qb ot)<|js (qb oi)<|nt<|ct<|tr<|JE.retB rfl (RvOK.tmp rfl) (RvOK.tmp rfl)
  ·obtain ⟨v37,hl38,hm⟩ :=ob hm
   refine ck<|tn<|sr<|js (qV (j:=2) u75 ty5 hz5 (.cons oi .nil))<|js (qb ot)<|nt<|cs<|sr<|js (qc ot (fp pl118))<|js (qd ot fo_api_Value_2 ty9)<|js (qD ot u9)<|js (qa oi)<|nt<|JC.join [(4, OS 2)] [(2, OwnSl (RInt .u8) 5 v37)] ?_ (fun _ hK39=>?_)
   ·obtain ⟨hb47,hm⟩ :=og hm
    refine tn<|sr<|js (qa ot)<|js (qC u75 ty5 hz5 (.cons oi .nil))<|js (qB (j:=9) ot ot u75 sl5 hb47) ?_
    refine JL.imp (Imp.frz 9 (ts := [46]) rfl (.cons rfl .nil)) ?_
    cases hm
    exact js (va ot u75 u5 u9)<|js (qb ot)<|js (qb oi)<|nt<|ct<|JE.retB rfl (RvOK.tmp rfl) (RvOK.tmp rfl)
   ·refine cb<|JC.loop _ (fun s45=>[(1, BP 1 0), (4, OS 2), (17, D (RInt .i64) (List.length (api_Value.S a0) : Int)), (18, D (RInt .i64) s45.1)]) (fun s45=>[(1, Box R_api_Value 118 a0), (2, OwnSl (RInt .u8) 5 s45.2)]) _ ?_ _ hl38 ml
    intro s45 r44 _ hs41 hB42 hE43
    obtain ⟨v20, v21⟩ := s45
    try dsimp only at hs41
    refine sr<|js (qh ot ot)<|nt<|cs<|cn ot hs41 (fun hc48 hs41=>?_) fun hc48 hs41=>?_
    ·obtain ⟨hb49,hs41⟩ :=og hs41
     obtain ⟨hb54,hs41⟩ :=og hs41
     refine ck<|tn<|cs<|cb<|sr<|js (qa ot)<|js (qb ot)<|nt<|cs<|sr<|js (qc ot (fp pl118))<|js (qd ot fo_api_Value_2 ty9)<|js (qa ot)<|js (qU ot ot u9 hb49)<|js (qy ot oi)<|js (qa ot)<|jg (fun hg50=>qc ot (fp pl118))<|jg (fun hg51=>qd (ow hg51) fo_api_Value_2 ty9)<|jg (fun hg52=>qa ot)<|jg (fun hg53=>qU (ow hg53) (ow hg53) u9 (hb54 hg53))<|jg (fun hg55=>qy (ow hg55) oi)<|js (qm ot (fun hk56 => ow hk56))<|nt<|cn ot hs41 (fun hc57 hs41=>?_) fun hc57 hs41=>?_
     ·obtain ⟨hb58,hs41⟩ :=og hs41
      obtain ⟨hb59,hs41⟩ :=og hs41
      obtain ⟨hb60,hs41⟩ :=og hs41
      cases hs41
      refine cr<|js (qa ot)<|js (qC u75 ty5 hz5 (.cons oi .nil))<|js (qB (j:=10) ot ot u75 sl5 hb58)<|js (qb ot)<|nt<|cr<|js (qa ot)<|js (qc ot (fp pl118))<|js (qd ot fo_api_Value_2 ty9)<|js (qa ot)<|js (qU ot ot u9 hb59)<|js (qC u75 ty5 hz5 (.cons ot .nil))<|js (qB (j:=11) ot ot u75 sl5 hb60)<|js (qb ot)<|jn<|bn<|tn<|cr<|js (qk ot oi)<|js (qa ot)<|jn ?_
      exact JE.meetR [(1, 1), (2, 11)] (hB42 _ rfl) (by decide) (by decide) (CVR.cons (t := 1) rfl (Ren.bp rfl) (CVR.cons (t := 4) rfl (Ren.os rfl) (CVR.cons (t := 17) rfl Ren.dat (CVR.cons (t := 18) rfl Ren.dat CVR.nil)))) (OVR.cons (i := 1) rfl RenO.box (OVR.cons (i := 11) rfl RenO.sl OVR.nil))
     ·obtain ⟨hb61,hs41⟩ :=og hs41
      obtain ⟨hb62,hs41⟩ :=og hs41
      cases hs41
      refine ck<|tn<|cr<|js (qa ot)<|js (qc ot (fp pl118))<|js (qd ot fo_api_Value_2 ty9)<|js (qa ot)<|js (qU ot ot u9 hb61)<|js (qC u75 ty5 hz5 (.cons ot .nil))<|js (qB (j:=12) ot ot u75 sl5 hb62)<|js (qb ot)<|jn<|bn<|tn<|cr<|js (qk ot oi)<|js (qa ot)<|jn ?_
      exact JE.meetR [(1, 1), (2, 12)] (hB42 _ rfl) (by decide) (by decide) (CVR.cons (t := 1) rfl (Ren.bp rfl) (CVR.cons (t := 4) rfl (Ren.os rfl) (CVR.cons (t := 17) rfl Ren.dat (CVR.cons (t := 18) rfl Ren.dat CVR.nil)))) (OVR.cons (i := 1) rfl RenO.box (OVR.cons (i := 12) rfl RenO.sl OVR.nil))
    ·cases hs41
     cases (hE43 _ rfl)
     exact cx<|tx<|tx<|bx<|mt hK39
theorem pred_write_o0_con : ∀ (n : Nat) (a1 : api_Pred) (o0 : Str) (r : Str) (hm : pred_write_o0 n a1 o0 = some r), SCon Base prog 210 [(0, Bld 77 o0)] [BP 0 0, D R_api_Pred a1] [(0, Bld 77 r)] (TUP []) := by
 intro n
 induction n with
 | zero => intro a1 o0 r hm; rw [pred_write_o0.eq_1] at hm; cases hm
 | succ n ih =>
  intro a1 o0 r hm
  rw [pred_write_o0.eq_2] at hm
  refine SI func210 (fun gs=>[(0, BldAt (IsV (gs 0)) 77 o0)]) (fun gs=>(.bld .nil)) fun w O gs own hk=>?_
  refine sr<|js (qq (i:=2) ot)<|nt<|sr<|js (qc ot (fp pl120))<|js (qd ot fo_api_Pred_0 ty9)<|nt<|cb<|sr<|js (qz ot oS)<|js (qb ot)<|nt<|cn ot hm (fun hc1 hm=>?_) fun hc1 hm=>?_
  ·obtain ⟨x2,hx3,hm⟩ :=ob hm
   cases hm
   exact cr<|js (qa ot)<|js (qc ot (fp pl120))<|js (qd ot fo_api_Pred_0 ty9)<|js (qg (σ:=[(0, 0)]) oF (strings_Builder_WriteString_con bld77 (by decide) (PT.Op a1) o0 _ hx3) call153 (.cons ot (Ren.bp rfl) (.cons ot Ren.dat .nil)) .nil (.bld rfl .nil) (RenB.tup (.cons (.cons .nil))))<|jn<|bn<|JE.end0<|JE.retS0 hk (.bld rfl .nil) (.bld rfl .nil) rfl
  ·obtain ⟨v5,hj6,hm⟩ :=ob hm
   refine cs<|sr<|js (qz ot oS)<|js (qb ot)<|nt<|JC.join [(0, BP 0 0), (3, BP 2 0), (8, D RStr (PT.Op a1)), (37, D RBool v5)] [(0, BldAt (IsV (gs 0)) 77 o0), (2, Box R_api_Pred 120 a1)] ?_ (fun _ hK7=>?_)
   ·refine tn<|cn ot hm (fun hc9 hm=>?_) fun hc9 hm=>?_
    ·obtain ⟨hb10,hm⟩ :=og hm
     obtain ⟨hb11,hm⟩ :=og hm
     obtain ⟨hb12,hm⟩ :=og hm
     obtain ⟨x13,hx14,hm⟩ :=ob hm
     cases hm
     exact cr<|js (qa ot)<|js (qc ot (fp pl120))<|js (qd ot fo_api_Pred_0 ty9)<|js (qM ot oS hb10)<|js (qc ot (fp pl120))<|js (qd ot fo_api_Pred_1 ty9)<|js (qM ot ot hb11)<|js (qM ot oS hb12)<|js (qg (σ:=[(0, 0)]) oF (strings_Builder_WriteString_con bld77 (by decide) ((((PT.Op a1) ++ ([40] : Str)) ++ (PT.S a1)) ++ ([41] : Str)) o0 _ hx14) call153 (.cons ot (Ren.bp rfl) (.cons ot Ren.dat .nil)) .nil (.bld rfl .nil) (RenB.tup (.cons (.cons .nil))))<|jn<|bn<|JE.end0<|JE.retS0 hk (.bld rfl .nil) (.bld rfl .nil) rfl
    ·obtain ⟨v16,hj17,hm⟩ :=ob hm
     refine cs<|sr<|js (qz ot oS)<|js (qb ot)<|nt<|JC.join [(0, BP 0 0), (3, BP 2 0), (8, D RStr (PT.Op a1)), (49, D RBool v16)] [(0, BldAt (IsV (gs 0)) 77 o0), (2, Box R_api_Pred 120 a1)] ?_ (fun _ hK18=>?_)
     ·refine tn<|cn ot hm (fun hc20 hm=>?_) fun hc20 hm=>?_
      ·obtain ⟨v22,hj23,hm⟩ :=ob hm
       refine sr<|js (qb oS)<|nt<|cs<|sr<|js (qc ot (fp pl120))<|js (qd ot fo_api_Pred_0 ty9)<|js (qz ot oS)<|nt<|JC.join [(0, BP 0 0), (3, BP 2 0), (4, D RStr v22)] [(0, BldAt (IsV (gs 0)) 77 o0), (2, Box R_api_Pred 120 a1)] ?_ (fun _ hK24=>?_)
       ·obtain ⟨x26,hx27,hm⟩ :=ob hm
        obtain ⟨hb28,hm⟩ :=og hm
        obtain ⟨hb29,hm⟩ :=og hm
        obtain ⟨hb30,hm⟩ :=og hm
        obtain ⟨hb31,hm⟩ :=og hm
        obtain ⟨x32,hx33,hm⟩ :=ob hm
        cases hm
        exact tn<|sr<|js (qc ot (fp pl120))<|js (qd ot fo_api_Pred_2 ty118)<|js (qe oF (val_Write_con (PT.V a1) _ hx27) call221 (ze zn))<|js (qa ot)<|js (qu ot)<|js (qu ot)<|js (qb ot)<|js (qb ot)<|nt<|cr<|js (qa ot)<|js (qc ot (fp pl120))<|js (qd ot fo_api_Pred_1 ty9)<|js (qM oS ot hb28)<|js (qa ot)<|js (qM ot ot hb29)<|js (qa ot)<|js (qM ot ot hb30)<|js (qM ot oS hb31)<|js (qg (σ:=[(0, 0)]) oF (strings_Builder_WriteString_con bld77 (by decide) ((((([40] : Str) ++ (PT.S a1)) ++ v22) ++ x26.1) ++ ([41] : Str)) o0 _ hx33) call153 (.cons ot (Ren.bp rfl) (.cons ot Ren.dat .nil)) .nil (.bld rfl .nil) (RenB.tup (.cons (.cons .nil))))<|jn<|bn<|JE.end0<|JE.retS0 hk (.bld rfl .nil) (.bld rfl .nil) rfl
       ·refine cn ot hj23 (fun hc35 hj23=>?_) fun hc35 hj23=>?_
        ·cases hj23
         exact cr<|js (qb oS)<|jn<|mt hK24
        ·cases hj23
         exact ck<|mt hK24
      ·refine sr<|js (qz ot oS)<|js (qb ot)<|nt<|cn ot hm (fun hc36 hm=>?_) fun hc36 hm=>?_
       ·obtain ⟨x37,hx38,hm⟩ :=ob hm
        obtain ⟨hb39,hm⟩ :=og hm
        obtain ⟨x40,hx41,hm⟩ :=ob hm
        obtain ⟨x42,hx43,hm⟩ :=ob hm
        cases hm
        exact sr<|js (qa ot)<|js (qg (σ:=[(0, 0)]) oF (strings_Builder_WriteString_con bld77 (by decide) ([40, 110, 111, 116, 32] : Str) o0 _ hx38) call153 (.cons ot (Ren.bp rfl) (.cons oS Ren.dat .nil)) .nil (.bld rfl .nil) (RenB.tup (.cons (.cons .nil))))<|nt<|sr<|js (qa ot)<|js (qc ot (fp pl120))<|js (qd ot fo_api_Pred_3 ty41)<|js (qj ot oi u41 ty120 hb39)<|js (qi ot ty120)<|js (qg (σ:=[(0, 0)]) oF (ih (nth (PT.L a1) (0 : Int)) x37.2.2 _ hx41) call210 (.cons ot (Ren.bp rfl) (.cons ot Ren.dat .nil)) .nil (.bld rfl .nil) (RenB.tup .nil))<|nt<|cr<|js (qa ot)<|js (qg (σ:=[(0, 0)]) oF (strings_Builder_WriteString_con bld77 (by decide) ([41] : Str) x40 _ hx43) call153 (.cons ot (Ren.bp rfl) (.cons oS Ren.dat .nil)) .nil (.bld rfl .nil) (RenB.tup (.cons (.cons .nil))))<|jn<|bn<|JE.end0<|JE.retS0 hk (.bld rfl .nil) (.bld rfl .nil) rfl
       ·obtain ⟨x44,hx45,hm⟩ :=ob hm
        obtain ⟨hb46,hm⟩ :=og hm
        obtain ⟨x47,hx48,hm⟩ :=ob hm
        obtain ⟨hb49,hm⟩ :=og hm
        obtain ⟨hb50,hm⟩ :=og hm
        obtain ⟨x51,hx52,hm⟩ :=ob hm
        obtain ⟨hb53,hm⟩ :=og hm
        obtain ⟨x54,hx55,hm⟩ :=ob hm
        obtain ⟨x56,hx57,hm⟩ :=ob hm
        cases hm
        exact sr<|js (qa ot)<|js (qg (σ:=[(0, 0)]) oF (strings_Builder_WriteString_con bld77 (by decide) ([40] : Str) o0 _ hx45) call153 (.cons ot (Ren.bp rfl) (.cons oS Ren.dat .nil)) .nil (.bld rfl .nil) (RenB.tup (.cons (.cons .nil))))<|nt<|sr<|js (qa ot)<|js (qc ot (fp pl120))<|js (qd ot fo_api_Pred_3 ty41)<|js (qj ot oi u41 ty120 hb46)<|js (qi ot ty120)<|js (qg (σ:=[(0, 0)]) oF (ih (nth (PT.L a1) (0 : Int)) x44.2.2 _ hx48) call210 (.cons ot (Ren.bp rfl) (.cons ot Ren.dat .nil)) .nil (.bld rfl .nil) (RenB.tup .nil))<|nt<|sr<|js (qa ot)<|js (qc ot (fp pl120))<|js (qd ot fo_api_Pred_0 ty9)<|js (qM oS ot hb49)<|js (qM ot oS hb50)<|js (qg (σ:=[(0, 0)]) oF (strings_Builder_WriteString_con bld77 (by decide) ((([32] : Str) ++ (PT.Op a1)) ++ ([32] : Str)) x47 _ hx52) call153 (.cons ot (Ren.bp rfl) (.cons ot Ren.dat .nil)) .nil (.bld rfl .nil) (RenB.tup (.cons (.cons .nil))))<|nt<|sr<|js (qa ot)<|js (qc ot (fp pl120))<|js (qd ot fo_api_Pred_3 ty41)<|js (qj ot oi u41 ty120 hb53)<|js (qi ot ty120)<|js (qg (σ:=[(0, 0)]) oF (ih (nth (PT.L a1) (1 : Int)) x51.2.2 _ hx55) call210 (.cons ot (Ren.bp rfl) (.cons ot Ren.dat .nil)) .nil (.bld rfl .nil) (RenB.tup .nil))<|nt<|cr<|js (qa ot)<|js (qg (σ:=[(0, 0)]) oF (strings_Builder_WriteString_con bld77 (by decide) ([41] : Str) x54 _ hx57) call153 (.cons ot (Ren.bp rfl) (.cons oS Ren.dat .nil)) .nil (.bld rfl .nil) (RenB.tup (.cons (.cons .nil))))<|jn<|bn<|JE.end0<|JE.retS0 hk (.bld rfl .nil) (.bld rfl .nil) rfl
     ·refine cn ot hj17 (fun hc59 hj17=>?_) fun hc59 hj17=>?_
      ·cases hj17
       exact ck<|mt hK18
      ·cases hj17
       exact cr<|js (qz ot oS)<|js (qb ot)<|jn<|mt hK18
   ·refine cn ot hj6 (fun hc61 hj6=>?_) fun hc61 hj6=>?_
    ·cases hj6
     exact ck<|mt hK7
    ·cases hj6
     exact cr<|js (qz ot oS)<|js (qb ot)<|jn<|mt hK7
theorem pred_Text_con (a0 r) (hm : pred_Text a0 = some r) : PC 193 [D R_api_Pred a0] (TUP [D RStr r.1,D (RInt .i64) r.2]) := by
 refine PI func193 fun w O=>?_
 unfold pred_Text at hm
 obtain ⟨x1,hx2,hm⟩ :=ob hm
 refine sr<|js (qq (i:=1) ot)<|js (qb oS)<|js (qb oi)<|nt<|cs<|sr<|js (qn ot ty120)<|js (qe oF (pred_May_con a0 _ hx2) call152 (ze zn))<|js (qr ot)<|nt<|cn ot hm (fun hc3 hm=>?_) fun hc3 hm=>?_
 ·cases hm
  exact sr<|js (qb oS)<|js (qb oi)<|nt<|ct<|tr<|JE.retB rfl (RvOK.tmp rfl) (RvOK.tmp rfl)
 ·obtain ⟨x4,hx5,hm⟩ :=ob hm
  obtain ⟨x6,hx7,hm⟩ :=ob hm
  cases hm
  exact ck<|tn<|sr<|js (vf (j:=2))<|nt<|sr<|js (qn ot ty120)<|js (qg (σ:=[(0, 2)]) oF (pred_write_o0_con FUEL a0 ([] : Str) _ hx5) call210 (.cons ot (Ren.bp rfl) (.cons ot Ren.dat .nil)) .nil (.bld rfl .nil) (RenB.tup .nil))<|nt<|sr<|js (qg (σ:=[(0, 2)]) oF (strings_Builder_String_con (T := 77) x4 _ hx7) call27 (.cons ot (Ren.bp rfl) .nil) .nil (.bldDead rfl .nil) RenB.dat)<|js (qb ot)<|js (qb oi)<|nt<|ct<|JE.retB rfl (RvOK.tmp rfl) (RvOK.tmp rfl)
theorem shelf_pen_where_o0_con (a1 o0 r) (hm : shelf_pen_where_o0 a1 o0 = some r) : SC 157 [(0,Bld 79 o0)] [BP 0 0,D R_api_Pred a1] [(0,Bld 79 r)] (TUP []) := by
 refine SI func157 (fun gs=>[(0, BldAt (IsV (gs 0)) 79 o0)]) (fun gs=>(.bld .nil)) fun w O gs own hk=>?_
 unfold shelf_pen_where_o0 at hm
 obtain ⟨x1,hx2,hm⟩ :=ob hm
 obtain ⟨x3,hx4,hm⟩ :=ob hm
 cases hm
 exact sr<|js (qq (i:=2) ot)<|nt<|sr<|js (qn ot ty120)<|js (qe oF (pred_Text_con a1 _ hx2) call193 (ze zn))<|js (qa ot)<|js (qu ot)<|js (qu ot)<|js (qb ot)<|js (qb ot)<|nt<|cr<|js (qa ot)<|js (qa ot)<|js (qg (σ:=[(0, 0)]) oF (shelf_pen_text_o0_con x1.1 o0 _ hx4) call103 (.cons ot (Ren.bp rfl) (.cons ot Ren.dat .nil)) .nil (.bld rfl .nil) (RenB.tup .nil))<|jn<|JE.end0<|JE.retS0 hk (.bld rfl .nil) (.bld rfl .nil) rfl
theorem shelf_list_api_Pred_o0__shelf_pen_where_o0_con (a1 o0 r) (hm : shelf_list_api_Pred_o0__shelf_pen_where_o0 a1 o0 = some r) : SC 156 [(0,Bld 79 o0)] [BP 0 0,D (RSlice R_api_Pred) a1,BM 157 [BP 0 0]] [(0,Bld 79 r)] (TUP []) := by
 refine SI func156 (fun gs=>[(0, BldAt (IsV (gs 0)) 79 o0)]) (fun gs=>(.bld .nil)) fun w O gs own hk=>?_
 unfold shelf_list_api_Pred_o0__shelf_pen_where_o0 at hm
 obtain ⟨x1,hx2,hm⟩ :=ob hm
 obtain ⟨v13,hl14,hm⟩ :=ob hm
 refine sr<|js (qa ot)<|js (qa ot)<|js (qf ot u41)<|js (qA ot u3 u46)<|js (qg (σ:=[(0, 0)]) oF (shelf_pen_id_o0_con (IntKind.u64.wrap (List.length a1 : Int)) o0 _ hx2) call105 (.cons ot (Ren.bp rfl) (.cons ot Ren.dat .nil)) .nil (.bld rfl .nil) (RenB.tup .nil))<|nt<|sr<|js (qa ot)<|js (qf ot u41)<|js (qa oi)<|nt<|JC.join [] [(0, BldAt (IsV (gs 0)) 79 v13)] ?_ (fun _ hK15=>?_)
 ·cases hm
  exact JE.end0<|JE.retS0 hk (.bld rfl .nil) (.bld rfl .nil) rfl
 ·refine cb<|JC.loop _ (fun s21=>[(2, BM 157 [BP 0 0]), (13, D (RSlice R_api_Pred) a1), (14, D (RInt .i64) (List.length a1 : Int)), (15, D (RInt .i64) s21.1)]) (fun s21=>[(0, BldAt (IsV (gs 0)) 79 s21.2)]) _ ?_ _ hl14 ml
  intro s21 r20 _ hs17 hB18 hE19
  obtain ⟨v7, v8⟩ := s21
  try dsimp only at hs17
  refine sr<|js (qh ot ot)<|nt<|cs<|cn ot hs17 (fun hc23 hs17=>?_) fun hc23 hs17=>?_
  ·obtain ⟨hb24,hs17⟩ :=og hs17
   obtain ⟨x25,hx26,hs17⟩ :=ob hs17
   cases hs17
   exact ck<|tn<|cs<|cb<|sr<|js (qj ot ot u41 ty120 hb24)<|js (qi ot ty120)<|js (qp (i:=4) zero120)<|js (qo ot ot ty120)<|nt<|cr<|js (qa ot)<|js (qn ot ty120)<|js (qH (σ:=[(0, 0)]) ot (shelf_pen_where_o0_con (nth a1 v7) v8 _ hx26) call157 (.cons ot Ren.dat .nil) (.cons (Ren.bp rfl) .nil) (.bld rfl .nil) (RenB.tup .nil))<|jn<|bn<|tn<|cr<|js (qk ot oi)<|js (qa ot)<|jn<|mt (hB18 _ rfl)
  ·cases hs17
   cases (hE19 _ rfl)
   exact cx<|tx<|tx<|bx<|mt hK15
theorem shelf_pen_def_o0_con (a1 o0 r) (hm : shelf_pen_def_o0 a1 o0 = some r) : SC 106 [(0,Bld 79 o0)] [BP 0 0,D R_api_Def a1] [(0,Bld 79 r)] (TUP []) := by
 refine SI func106 (fun gs=>[(0, BldAt (IsV (gs 0)) 79 o0)]) (fun gs=>(.bld .nil)) fun w O gs own hk=>?_
 unfold shelf_pen_def_o0 at hm
 obtain ⟨x1,hx2,hm⟩ :=ob hm
 obtain ⟨x3,hx4,hm⟩ :=ob hm
 obtain ⟨x5,hx6,hm⟩ :=ob hm
 obtain ⟨x7,hx8,hm⟩ :=ob hm
 obtain ⟨x9,hx10,hm⟩ :=ob hm
 obtain ⟨x11,hx12,hm⟩ :=ob hm
 obtain ⟨x13,hx14,hm⟩ :=ob hm
 obtain ⟨x15,hx16,hm⟩ :=ob hm
 cases hm
 exact sr<|js (qq (i:=2) ot)<|nt<|sr<|js (qa ot)<|js (qc ot (fp pl45))<|js (qd ot fo_api_Def_0 ty9)<|js (qg (σ:=[(0, 0)]) oF (shelf_pen_text_o0_con (api_Def.Name a1) o0 _ hx2) call103 (.cons ot (Ren.bp rfl) (.cons ot Ren.dat .nil)) .nil (.bld rfl .nil) (RenB.tup .nil))<|nt<|sr<|js (qa ot)<|js (qc ot (fp pl45))<|js (qd ot fo_api_Def_1 ty40)<|js (qa ot)<|js (qG (Caps.cons ot (Caps.nil (xs := []))))<|js (qg (σ:=[(0, 0)]) oF (shelf_list_string_o0__shelf_pen_text_o0_con (api_Def.Globs a1) x1 _ hx4) call119 (.cons ot (Ren.bp rfl) (.cons ot Ren.dat (.cons ot (Ren.bm (.cons (Ren.bp rfl) .nil)) .nil))) .nil (.bld rfl .nil) (RenB.tup .nil))<|nt<|sr<|js (qa ot)<|js (qc ot (fp pl45))<|js (qd ot fo_api_Def_2 ty41)<|js (qa ot)<|js (qG (Caps.cons ot (Caps.nil (xs := []))))<|js (qg (σ:=[(0, 0)]) oF (shelf_list_api_Pred_o0__shelf_pen_where_o0_con (api_Def.Where a1) x3 _ hx6) call156 (.cons ot (Ren.bp rfl) (.cons ot Ren.dat (.cons ot (Ren.bm (.cons (Ren.bp rfl) .nil)) .nil))) .nil (.bld rfl .nil) (RenB.tup .nil))<|nt<|sr<|js (qa ot)<|js (qc ot (fp pl45))<|js (qd ot fo_api_Def_3 ty9)<|js (qg (σ:=[(0, 0)]) oF (shelf_pen_text_o0_con (api_Def.Key a1) x5 _ hx8) call103 (.cons ot (Ren.bp rfl) (.cons ot Ren.dat .nil)) .nil (.bld rfl .nil) (RenB.tup .nil))<|nt<|sr<|js (qa ot)<|js (qc ot (fp pl45))<|js (qc ot (fp pl43))<|js (qd ot (FieldOf.comp fo_api_Def_4 fo_api_Join_0) ty9)<|js (qg (σ:=[(0, 0)]) oF (shelf_pen_text_o0_con (api_Join.Kind (api_Def.J a1)) x7 _ hx10) call103 (.cons ot (Ren.bp rfl) (.cons ot Ren.dat .nil)) .nil (.bld rfl .nil) (RenB.tup .nil))<|nt<|sr<|js (qa ot)<|js (qc ot (fp pl45))<|js (qc ot (fp pl43))<|js (qd ot (FieldOf.comp fo_api_Def_4 fo_api_Join_1) ty3)<|js (qg (σ:=[(0, 0)]) oF (shelf_pen_number_o0_con (api_Join.Parts (api_Def.J a1)) x9 _ hx12) call63 (.cons ot (Ren.bp rfl) (.cons ot Ren.dat .nil)) .nil (.bld rfl .nil) (RenB.tup .nil))<|nt<|sr<|js (qa ot)<|js (qc ot (fp pl45))<|js (qc ot (fp pl43))<|js (qd ot (FieldOf.comp fo_api_Def_4 fo_api_Join_2) ty3)<|js (qg (σ:=[(0, 0)]) oF (shelf_pen_number_o0_con (api_Join.Need (api_Def.J a1)) x11 _ hx14) call63 (.cons ot (Ren.bp rfl) (.cons ot Ren.dat .nil)) .nil (.bld rfl .nil) (RenB.tup .nil))<|nt<|cr<|js (qa ot)<|js (qc ot (fp pl45))<|js (qc ot (fp pl43))<|js (qd ot (FieldOf.comp fo_api_Def_4 fo_api_Join_3) ty3)<|js (qg (σ:=[(0, 0)]) oF (shelf_pen_number_o0_con (api_Join.Window (api_Def.J a1)) x13 _ hx16) call63 (.cons ot (Ren.bp rfl) (.cons ot Ren.dat .nil)) .nil (.bld rfl .nil) (RenB.tup .nil))<|jn<|JE.end0<|JE.retS0 hk (.bld rfl .nil) (.bld rfl .nil) rfl
theorem shelf_pen_off_o0_con (a1 o0 r) (hm : shelf_pen_off_o0 a1 o0 = some r) : SC 121 [(0,Bld 79 o0)] [BP 0 0,D R_api_Off a1] [(0,Bld 79 r)] (TUP []) := by
 refine SI func121 (fun gs=>[(0, BldAt (IsV (gs 0)) 79 o0)]) (fun gs=>(.bld .nil)) fun w O gs own hk=>?_
 unfold shelf_pen_off_o0 at hm
 obtain ⟨x1,hx2,hm⟩ :=ob hm
 obtain ⟨x3,hx4,hm⟩ :=ob hm
 cases hm
 exact sr<|js (qq (i:=2) ot)<|nt<|sr<|js (qa ot)<|js (qc ot (fp pl123))<|js (qd ot fo_api_Off_0 ty9)<|js (qg (σ:=[(0, 0)]) oF (shelf_pen_text_o0_con (api_Off.Topic a1) o0 _ hx2) call103 (.cons ot (Ren.bp rfl) (.cons ot Ren.dat .nil)) .nil (.bld rfl .nil) (RenB.tup .nil))<|nt<|cr<|js (qa ot)<|js (qc ot (fp pl123))<|js (qd ot fo_api_Off_1 ty3)<|js (qg (σ:=[(0, 0)]) oF (shelf_pen_number_o0_con (api_Off.Next a1) x1 _ hx4) call63 (.cons ot (Ren.bp rfl) (.cons ot Ren.dat .nil)) .nil (.bld rfl .nil) (RenB.tup .nil))<|jn<|JE.end0<|JE.retS0 hk (.bld rfl .nil) (.bld rfl .nil) rfl
theorem shelf_list_api_Off_o0__shelf_pen_off_o0_con (a1 o0 r) (hm : shelf_list_api_Off_o0__shelf_pen_off_o0 a1 o0 = some r) : SC 120 [(0,Bld 79 o0)] [BP 0 0,D (RSlice R_api_Off) a1,BM 121 [BP 0 0]] [(0,Bld 79 r)] (TUP []) := by
 refine SI func120 (fun gs=>[(0, BldAt (IsV (gs 0)) 79 o0)]) (fun gs=>(.bld .nil)) fun w O gs own hk=>?_
 unfold shelf_list_api_Off_o0__shelf_pen_off_o0 at hm
 obtain ⟨x1,hx2,hm⟩ :=ob hm
 obtain ⟨v13,hl14,hm⟩ :=ob hm
 refine sr<|js (qa ot)<|js (qa ot)<|js (qf ot u63)<|js (qA ot u3 u46)<|js (qg (σ:=[(0, 0)]) oF (shelf_pen_id_o0_con (IntKind.u64.wrap (List.length a1 : Int)) o0 _ hx2) call105 (.cons ot (Ren.bp rfl) (.cons ot Ren.dat .nil)) .nil (.bld rfl .nil) (RenB.tup .nil))<|nt<|sr<|js (qa ot)<|js (qf ot u63)<|js (qa oi)<|nt<|JC.join [] [(0, BldAt (IsV (gs 0)) 79 v13)] ?_ (fun _ hK15=>?_)
 ·cases hm
  exact JE.end0<|JE.retS0 hk (.bld rfl .nil) (.bld rfl .nil) rfl
 ·refine cb<|JC.loop _ (fun s21=>[(2, BM 121 [BP 0 0]), (13, D (RSlice R_api_Off) a1), (14, D (RInt .i64) (List.length a1 : Int)), (15, D (RInt .i64) s21.1)]) (fun s21=>[(0, BldAt (IsV (gs 0)) 79 s21.2)]) _ ?_ _ hl14 ml
  intro s21 r20 _ hs17 hB18 hE19
  obtain ⟨v7, v8⟩ := s21
  try dsimp only at hs17
  refine sr<|js (qh ot ot)<|nt<|cs<|cn ot hs17 (fun hc23 hs17=>?_) fun hc23 hs17=>?_
  ·obtain ⟨hb24,hs17⟩ :=og hs17
   obtain ⟨x25,hx26,hs17⟩ :=ob hs17
   cases hs17
   exact ck<|tn<|cs<|cb<|sr<|js (qj ot ot u63 ty123 hb24)<|js (qi ot ty123)<|js (qp (i:=4) zero123)<|js (qo ot ot ty123)<|nt<|cr<|js (qa ot)<|js (qn ot ty123)<|js (qH (σ:=[(0, 0)]) ot (shelf_pen_off_o0_con (nth a1 v7) v8 _ hx26) call121 (.cons ot Ren.dat .nil) (.cons (Ren.bp rfl) .nil) (.bld rfl .nil) (RenB.tup .nil))<|jn<|bn<|tn<|cr<|js (qk ot oi)<|js (qa ot)<|jn<|mt (hB18 _ rfl)
  ·cases hs17
   cases (hE19 _ rfl)
   exact cx<|tx<|tx<|bx<|mt hK15
theorem val_Lay_con (a0 r) (hm : val_Lay a0 = some r) : PC 175 [D R_api_Value a0] (TUP [D RStr r.1,D (RInt .i64) r.2]) := by
 refine PI func175 fun w O=>?_
 unfold val_Lay at hm
 refine sr<|js (qq (i:=1) ot)<|js (qb oS)<|js (qb oi)<|nt<|cs<|sr<|js (qn ot ty118)<|js (qe oF (val_May_con a0 _ rfl) call203 (ze zn))<|js (qr ot)<|nt<|cn ot hm (fun hc1 hm=>?_) fun hc1 hm=>?_
 ·cases hm
  exact sr<|js (qb oS)<|js (qb oi)<|nt<|ct<|tr<|JE.retB rfl (RvOK.tmp rfl) (RvOK.tmp rfl)
 ·refine ck<|tn<|cs<|sr<|js (qc ot (fp pl118))<|js (qd ot fo_api_Value_0 ty4)<|nt<|cn ot hm (fun hc2 hm=>?_) fun hc2 hm=>?_
  ·obtain ⟨x3,hx4,hm⟩ :=ob hm
   obtain ⟨hb5,hm⟩ :=og hm
   refine cs<|cd [9,10,11,12,13,14,15] mixed [⟨[], [(9, D (RSlice (RInt .u8)) ([(1 : Int)] : (List Int)))], [], [], []⟩,⟨[(9, D (RSlice (RInt .u8)) ([(1 : Int)] : (List Int)))], [(10, D RStr (bytesS ([(1 : Int)] : (List Int))))], [], [], []⟩,⟨[(1, BP 1 0)], [(11, BP 1 1)], [], [], []⟩,⟨[(11, BP 1 1)], [(12, D (RInt .i64) (api_Value.N a0))], [(1, Box R_api_Value 118 a0)], [], []⟩,⟨[(12, D (RInt .i64) (api_Value.N a0))], [(13, D (RInt .u64) (num_Fold (api_Value.N a0)))], [], [], []⟩,⟨[(13, D (RInt .u64) (num_Fold (api_Value.N a0)))], [(14, D RStr x3)], [], [], []⟩,⟨[(10, D RStr (bytesS ([(1 : Int)] : (List Int)))), (14, D RStr x3)], [(15, D RStr ((bytesS ([(1 : Int)] : (List Int))) ++ x3))], [], [], []⟩] (al (fun _ _ h k f=>gu (qC u75 ty5 hz5 (.cons oi .nil)))<|al (fun _ _ h k f=>gu (va (ot h.1) u75 u5 u9))<|al (fun _ _ h k f=>gu (qc (off:=1) (ot h.1) (fp pl118)))<|al (fun _ _ h k f=>gu (qd (get:=fun d => api_Value.N d) (ot h.1) fo_api_Value_1 ty2 (hi:=k.1)))<|al (fun _ _ h k f=>gu (qe oF (num_Fold_con (api_Value.N a0) _ rfl) call118 (zc (zo (ot h.1)) zn)))<|al (fun _ _ h k f=>gu (qe oF (num_Pack_con (num_Fold (api_Value.N a0)) _ hx4) call155 (zc (zo (ot h.1)) zn)))<|al (fun _ _ h k f=>gu (qM (ot h.1) (ot h.2.1) hb5))<|an)<|jv [15] [] ?_
   cases hm
   exact js (qb ot)<|js (qb oi)<|nt<|ct<|tr<|JE.retB rfl (RvOK.tmp rfl) (RvOK.tmp rfl)
  ·obtain ⟨x6,hx7,hm⟩ :=ob hm
   obtain ⟨hb8,hm⟩ :=og hm
   obtain ⟨hb9,hm⟩ :=og hm
   refine ck<|tn<|cs<|cd [16,17,18,19,20,21,22,23,24,25,26] mixed [⟨[], [(16, D (RSlice (RInt .u8)) ([(2 : Int)] : (List Int)))], [], [], []⟩,⟨[(16, D (RSlice (RInt .u8)) ([(2 : Int)] : (List Int)))], [(17, D RStr (bytesS ([(2 : Int)] : (List Int))))], [], [], []⟩,⟨[(1, BP 1 0)], [(18, BP 1 2)], [], [], []⟩,⟨[(18, BP 1 2)], [(19, D RStr (api_Value.S a0))], [(1, Box R_api_Value 118 a0)], [], []⟩,⟨[(19, D RStr (api_Value.S a0))], [(20, D (RInt .i64) (List.length (api_Value.S a0) : Int))], [], [], []⟩,⟨[(20, D (RInt .i64) (List.length (api_Value.S a0) : Int))], [(21, D (RInt .u64) (IntKind.u64.wrap (List.length (api_Value.S a0) : Int)))], [], [], []⟩,⟨[(21, D (RInt .u64) (IntKind.u64.wrap (List.length (api_Value.S a0) : Int)))], [(22, D RStr x6)], [], [], []⟩,⟨[(17, D RStr (bytesS ([(2 : Int)] : (List Int)))), (22, D RStr x6)], [(23, D RStr ((bytesS ([(2 : Int)] : (List Int))) ++ x6))], [], [], []⟩,⟨[(1, BP 1 0)], [(24, BP 1 2)], [], [], []⟩,⟨[(24, BP 1 2)], [(25, D RStr (api_Value.S a0))], [(1, Box R_api_Value 118 a0)], [], []⟩,⟨[(23, D RStr ((bytesS ([(2 : Int)] : (List Int))) ++ x6)), (25, D RStr (api_Value.S a0))], [(26, D RStr (((bytesS ([(2 : Int)] : (List Int))) ++ x6) ++ (api_Value.S a0)))], [], [], []⟩] (al (fun _ _ h k f=>gu (qC u75 ty5 hz5 (.cons oi .nil)))<|al (fun _ _ h k f=>gu (va (ot h.1) u75 u5 u9))<|al (fun _ _ h k f=>gu (qc (off:=2) (ot h.1) (fp pl118)))<|al (fun _ _ h k f=>gu (qd (get:=fun d => api_Value.S d) (ot h.1) fo_api_Value_2 ty9 (hi:=k.1)))<|al (fun _ _ h k f=>gu (qD (ot h.1) u9))<|al (fun _ _ h k f=>gu (qA (ot h.1) u3 u46))<|al (fun _ _ h k f=>gu (qe oF (num_Pack_con (IntKind.u64.wrap (List.length (api_Value.S a0) : Int)) _ hx7) call155 (zc (zo (ot h.1)) zn)))<|al (fun _ _ h k f=>gu (qM (ot h.1) (ot h.2.1) hb8))<|al (fun _ _ h k f=>gu (qc (off:=2) (ot h.1) (fp pl118)))<|al (fun _ _ h k f=>gu (qd (get:=fun d => api_Value.S d) (ot h.1) fo_api_Value_2 ty9 (hi:=k.1)))<|al (fun _ _ h k f=>gu (qM (ot h.1) (ot h.2.1) hb9))<|an)<|jv [26] [] ?_
   cases hm
   exact js (qb ot)<|js (qb oi)<|nt<|ct<|JE.retB rfl (RvOK.tmp rfl) (RvOK.tmp rfl)
theorem shelf_pen_kept_o0_con (a1 o0 r) (hm : shelf_pen_kept_o0 a1 o0 = some r) : SC 177 [(0,Bld 79 o0)] [BP 0 0,D R_api_Kept a1] [(0,Bld 79 r)] (TUP []) := by
 refine SI func177 (fun gs=>[(0, BldAt (IsV (gs 0)) 79 o0)]) (fun gs=>(.bld .nil)) fun w O gs own hk=>?_
 unfold shelf_pen_kept_o0 at hm
 obtain ⟨x1,hx2,hm⟩ :=ob hm
 obtain ⟨x3,hx4,hm⟩ :=ob hm
 obtain ⟨x5,hx6,hm⟩ :=ob hm
 cases hm
 exact sr<|js (qq (i:=2) ot)<|nt<|sr<|js (qa ot)<|js (qc ot (fp pl153))<|js (qd ot fo_api_Kept_0 ty3)<|js (qg (σ:=[(0, 0)]) oF (shelf_pen_number_o0_con (api_Kept.Part a1) o0 _ hx2) call63 (.cons ot (Ren.bp rfl) (.cons ot Ren.dat .nil)) .nil (.bld rfl .nil) (RenB.tup .nil))<|nt<|sr<|js (qa ot)<|js (qc ot (fp pl153))<|js (qd ot fo_api_Kept_1 ty46)<|js (qg (σ:=[(0, 0)]) oF (shelf_pen_id_o0_con (api_Kept.Id a1) x1 _ hx4) call105 (.cons ot (Ren.bp rfl) (.cons ot Ren.dat .nil)) .nil (.bld rfl .nil) (RenB.tup .nil))<|nt<|cr<|js (qa ot)<|js (qc ot (fp pl153))<|js (qd ot fo_api_Kept_2 ty3)<|js (qg (σ:=[(0, 0)]) oF (shelf_pen_number_o0_con (api_Kept.At a1) x3 _ hx6) call63 (.cons ot (Ren.bp rfl) (.cons ot Ren.dat .nil)) .nil (.bld rfl .nil) (RenB.tup .nil))<|jn<|JE.end0<|JE.retS0 hk (.bld rfl .nil) (.bld rfl .nil) rfl
theorem shelf_list_api_Kept_o0__shelf_pen_kept_o0_con (a1 o0 r) (hm : shelf_list_api_Kept_o0__shelf_pen_kept_o0 a1 o0 = some r) : SC 176 [(0,Bld 79 o0)] [BP 0 0,D (RSlice R_api_Kept) a1,BM 177 [BP 0 0]] [(0,Bld 79 r)] (TUP []) := by
 refine SI func176 (fun gs=>[(0, BldAt (IsV (gs 0)) 79 o0)]) (fun gs=>(.bld .nil)) fun w O gs own hk=>?_
 unfold shelf_list_api_Kept_o0__shelf_pen_kept_o0 at hm
 obtain ⟨x1,hx2,hm⟩ :=ob hm
 obtain ⟨v13,hl14,hm⟩ :=ob hm
 refine sr<|js (qa ot)<|js (qa ot)<|js (qf ot u125)<|js (qA ot u3 u46)<|js (qg (σ:=[(0, 0)]) oF (shelf_pen_id_o0_con (IntKind.u64.wrap (List.length a1 : Int)) o0 _ hx2) call105 (.cons ot (Ren.bp rfl) (.cons ot Ren.dat .nil)) .nil (.bld rfl .nil) (RenB.tup .nil))<|nt<|sr<|js (qa ot)<|js (qf ot u125)<|js (qa oi)<|nt<|JC.join [] [(0, BldAt (IsV (gs 0)) 79 v13)] ?_ (fun _ hK15=>?_)
 ·cases hm
  exact JE.end0<|JE.retS0 hk (.bld rfl .nil) (.bld rfl .nil) rfl
 ·refine cb<|JC.loop _ (fun s21=>[(2, BM 177 [BP 0 0]), (13, D (RSlice R_api_Kept) a1), (14, D (RInt .i64) (List.length a1 : Int)), (15, D (RInt .i64) s21.1)]) (fun s21=>[(0, BldAt (IsV (gs 0)) 79 s21.2)]) _ ?_ _ hl14 ml
  intro s21 r20 _ hs17 hB18 hE19
  obtain ⟨v7, v8⟩ := s21
  try dsimp only at hs17
  refine sr<|js (qh ot ot)<|nt<|cs<|cn ot hs17 (fun hc23 hs17=>?_) fun hc23 hs17=>?_
  ·obtain ⟨hb24,hs17⟩ :=og hs17
   obtain ⟨x25,hx26,hs17⟩ :=ob hs17
   cases hs17
   exact ck<|tn<|cs<|cb<|sr<|js (qj ot ot u125 ty153 hb24)<|js (qi ot ty153)<|js (qp (i:=4) zero153)<|js (qo ot ot ty153)<|nt<|cr<|js (qa ot)<|js (qn ot ty153)<|js (qH (σ:=[(0, 0)]) ot (shelf_pen_kept_o0_con (nth a1 v7) v8 _ hx26) call177 (.cons ot Ren.dat .nil) (.cons (Ren.bp rfl) .nil) (.bld rfl .nil) (RenB.tup .nil))<|jn<|bn<|tn<|cr<|js (qk ot oi)<|js (qa ot)<|jn<|mt (hB18 _ rfl)
  ·cases hs17
   cases (hE19 _ rfl)
   exact cx<|tx<|tx<|bx<|mt hK15
theorem shelf_pen_inst_o0_con (a1 o0 r) (hm : shelf_pen_inst_o0 a1 o0 = some r) : SC 123 [(0,Bld 79 o0)] [BP 0 0,D R_api_Inst a1] [(0,Bld 79 r)] (TUP []) := by
 refine SI func123 (fun gs=>[(0, BldAt (IsV (gs 0)) 79 o0)]) (fun gs=>(.bld .nil)) fun w O gs own hk=>?_
 unfold shelf_pen_inst_o0 at hm
 obtain ⟨x1,hx2,hm⟩ :=ob hm
 obtain ⟨x3,hx4,hm⟩ :=ob hm
 obtain ⟨x5,hx6,hm⟩ :=ob hm
 cases hm
 exact sr<|js (qq (i:=2) ot)<|nt<|sr<|js (qc ot (fp pl127))<|js (qd ot fo_api_Inst_0 ty118)<|js (qe oF (val_Lay_con (api_Inst.Key a1) _ hx2) call175 (ze zn))<|js (qa ot)<|js (qu ot)<|js (qu ot)<|js (qb ot)<|js (qb ot)<|nt<|sr<|js (qa ot)<|js (qt ot)<|js (qc ot (fp pl79))<|js (qa ot)<|js (qg (σ:=[(0, 0)]) oF (strings_Builder_WriteString_con bld79 (by decide) x1.1 o0 _ hx4) call153 (.cons ot (Ren.bp rfl) (.cons ot Ren.dat .nil)) .nil (.bld rfl .nil) (RenB.tup (.cons (.cons .nil))))<|nt<|cr<|js (qa ot)<|js (qc ot (fp pl127))<|js (qd ot fo_api_Inst_1 ty125)<|js (qa ot)<|js (qG (Caps.cons ot (Caps.nil (xs := []))))<|js (qg (σ:=[(0, 0)]) oF (shelf_list_api_Kept_o0__shelf_pen_kept_o0_con (api_Inst.L a1) x3.2.2 _ hx6) call176 (.cons ot (Ren.bp rfl) (.cons ot Ren.dat (.cons ot (Ren.bm (.cons (Ren.bp rfl) .nil)) .nil))) .nil (.bld rfl .nil) (RenB.tup .nil))<|jn<|JE.end0<|JE.retS0 hk (.bld rfl .nil) (.bld rfl .nil) rfl
theorem shelf_list_api_Inst_o0__shelf_pen_inst_o0_con (a1 o0 r) (hm : shelf_list_api_Inst_o0__shelf_pen_inst_o0 a1 o0 = some r) : SC 122 [(0,Bld 79 o0)] [BP 0 0,D (RSlice R_api_Inst) a1,BM 123 [BP 0 0]] [(0,Bld 79 r)] (TUP []) := by
 refine SI func122 (fun gs=>[(0, BldAt (IsV (gs 0)) 79 o0)]) (fun gs=>(.bld .nil)) fun w O gs own hk=>?_
 unfold shelf_list_api_Inst_o0__shelf_pen_inst_o0 at hm
 obtain ⟨x1,hx2,hm⟩ :=ob hm
 obtain ⟨v13,hl14,hm⟩ :=ob hm
 refine sr<|js (qa ot)<|js (qa ot)<|js (qf ot u64)<|js (qA ot u3 u46)<|js (qg (σ:=[(0, 0)]) oF (shelf_pen_id_o0_con (IntKind.u64.wrap (List.length a1 : Int)) o0 _ hx2) call105 (.cons ot (Ren.bp rfl) (.cons ot Ren.dat .nil)) .nil (.bld rfl .nil) (RenB.tup .nil))<|nt<|sr<|js (qa ot)<|js (qf ot u64)<|js (qa oi)<|nt<|JC.join [] [(0, BldAt (IsV (gs 0)) 79 v13)] ?_ (fun _ hK15=>?_)
 ·cases hm
  exact JE.end0<|JE.retS0 hk (.bld rfl .nil) (.bld rfl .nil) rfl
 ·refine cb<|JC.loop _ (fun s21=>[(2, BM 123 [BP 0 0]), (13, D (RSlice R_api_Inst) a1), (14, D (RInt .i64) (List.length a1 : Int)), (15, D (RInt .i64) s21.1)]) (fun s21=>[(0, BldAt (IsV (gs 0)) 79 s21.2)]) _ ?_ _ hl14 ml
  intro s21 r20 _ hs17 hB18 hE19
  obtain ⟨v7, v8⟩ := s21
  try dsimp only at hs17
  refine sr<|js (qh ot ot)<|nt<|cs<|cn ot hs17 (fun hc23 hs17=>?_) fun hc23 hs17=>?_
  ·obtain ⟨hb24,hs17⟩ :=og hs17
   obtain ⟨x25,hx26,hs17⟩ :=ob hs17
   cases hs17
   exact ck<|tn<|cs<|cb<|sr<|js (qj ot ot u64 ty127 hb24)<|js (qi ot ty127)<|js (qp (i:=4) zero127)<|js (qo ot ot ty127)<|nt<|cr<|js (qa ot)<|js (qn ot ty127)<|js (qH (σ:=[(0, 0)]) ot (shelf_pen_inst_o0_con (nth a1 v7) v8 _ hx26) call123 (.cons ot Ren.dat .nil) (.cons (Ren.bp rfl) .nil) (.bld rfl .nil) (RenB.tup .nil))<|jn<|bn<|tn<|cr<|js (qk ot oi)<|js (qa ot)<|jn<|mt (hB18 _ rfl)
  ·cases hs17
   cases (hE19 _ rfl)
   exact cx<|tx<|tx<|bx<|mt hK15
theorem shelf_pen_sub_o0_con (a1 o0 r) (hm : shelf_pen_sub_o0 a1 o0 = some r) : SC 69 [(0,Bld 79 o0)] [BP 0 0,D R_api_Sub a1] [(0,Bld 79 r)] (TUP []) := by
 refine SI func69 (fun gs=>[(0, BldAt (IsV (gs 0)) 79 o0)]) (fun gs=>(.bld .nil)) fun w O gs own hk=>?_
 unfold shelf_pen_sub_o0 at hm
 obtain ⟨x1,hx2,hm⟩ :=ob hm
 obtain ⟨x3,hx4,hm⟩ :=ob hm
 obtain ⟨x5,hx6,hm⟩ :=ob hm
 obtain ⟨v17,hl18,hm⟩ :=ob hm
 refine sr<|js (qq (i:=2) ot)<|nt<|sr<|js (qa ot)<|js (qc ot (fp pl66))<|js (qd ot fo_api_Sub_0 ty45)<|js (qg (σ:=[(0, 0)]) oF (shelf_pen_def_o0_con (api_Sub.D a1) o0 _ hx2) call106 (.cons ot (Ren.bp rfl) (.cons ot Ren.dat .nil)) .nil (.bld rfl .nil) (RenB.tup .nil))<|nt<|sr<|js (qa ot)<|js (qc ot (fp pl66))<|js (qd ot fo_api_Sub_1 ty63)<|js (qa ot)<|js (qG (Caps.cons ot (Caps.nil (xs := []))))<|js (qg (σ:=[(0, 0)]) oF (shelf_list_api_Off_o0__shelf_pen_off_o0_con (api_Sub.Offs a1) x1 _ hx4) call120 (.cons ot (Ren.bp rfl) (.cons ot Ren.dat (.cons ot (Ren.bm (.cons (Ren.bp rfl) .nil)) .nil))) .nil (.bld rfl .nil) (RenB.tup .nil))<|nt<|sr<|js (qa ot)<|js (qc ot (fp pl66))<|js (qd ot fo_api_Sub_2 ty64)<|js (qa ot)<|js (qG (Caps.cons ot (Caps.nil (xs := []))))<|js (qg (σ:=[(0, 0)]) oF (shelf_list_api_Inst_o0__shelf_pen_inst_o0_con (api_Sub.Insts a1) x3 _ hx6) call122 (.cons ot (Ren.bp rfl) (.cons ot Ren.dat (.cons ot (Ren.bm (.cons (Ren.bp rfl) .nil)) .nil))) .nil (.bld rfl .nil) (RenB.tup .nil))<|nt<|sr<|js (qc ot (fp pl66))<|js (qd ot fo_api_Sub_3 ty3)<|js (qc ot (fp pl66))<|js (qd ot fo_api_Sub_4 ty3)<|js (qc ot (fp pl66))<|js (qd ot fo_api_Sub_5 ty3)<|js (qc ot (fp pl66))<|js (qd ot fo_api_Sub_6 ty3)<|js (qc ot (fp pl66))<|js (qd ot fo_api_Sub_7 ty3)<|js (vo u192 ty3 zero192 (.cons ot (.cons ot (.cons ot (.cons ot (.cons ot .nil))))))<|js (qa oi)<|nt<|JC.join [] [(0, BldAt (IsV (gs 0)) 79 v17)] ?_ (fun _ hK19=>?_)
 ·cases hm
  exact JE.end0<|JE.retS0 hk (.bld rfl .nil) (.bld rfl .nil) rfl
 ·refine cb<|JC.loop _ (fun s25=>[(0, BP 0 0), (32, D (RArr 5 (RInt .i64)) ([api_Sub.Fails a1, api_Sub.Taken a1, api_Sub.Passes a1, api_Sub.Fires a1, api_Sub.Over a1] : (List Int))), (33, D (RInt .i64) s25.1)]) (fun s25=>[(0, BldAt (IsV (gs 0)) 79 s25.2)]) _ ?_ _ hl18 ml
  intro s25 r24 _ hs21 hB22 hE23
  obtain ⟨v11, v12⟩ := s25
  try dsimp only at hs21
  refine sr<|js (qh ot oi)<|nt<|cs<|cn ot hs21 (fun hc27 hs21=>?_) fun hc27 hs21=>?_
  ·obtain ⟨hb28,hs21⟩ :=og hs21
   obtain ⟨x29,hx30,hs21⟩ :=ob hs21
   cases hs21
   exact ck<|tn<|cs<|cb<|sr<|js (vq ot ot u192 ty3 hb28)<|js (qb ot)<|nt<|cr<|js (qa ot)<|js (qa ot)<|js (qg (σ:=[(0, 0)]) oF (shelf_pen_number_o0_con (nth ([api_Sub.Fails a1, api_Sub.Taken a1, api_Sub.Passes a1, api_Sub.Fires a1, api_Sub.Over a1] : (List Int)) v11) v12 _ hx30) call63 (.cons ot (Ren.bp rfl) (.cons ot Ren.dat .nil)) .nil (.bld rfl .nil) (RenB.tup .nil))<|jn<|bn<|tn<|cr<|js (qk ot oi)<|js (qa ot)<|jn<|mt (hB22 _ rfl)
  ·cases hs21
   cases (hE23 _ rfl)
   exact cx<|tx<|tx<|bx<|mt hK19
theorem shelf_list_api_Sub_o0__shelf_pen_sub_o0_con (a1 o0 r) (hm : shelf_list_api_Sub_o0__shelf_pen_sub_o0 a1 o0 = some r) : SC 68 [(0,Bld 79 o0)] [BP 0 0,D (RSlice R_api_Sub) a1,BM 69 [BP 0 0]] [(0,Bld 79 r)] (TUP []) := by
 refine SI func68 (fun gs=>[(0, BldAt (IsV (gs 0)) 79 o0)]) (fun gs=>(.bld .nil)) fun w O gs own hk=>?_
 unfold shelf_list_api_Sub_o0__shelf_pen_sub_o0 at hm
 obtain ⟨x1,hx2,hm⟩ :=ob hm
 obtain ⟨v13,hl14,hm⟩ :=ob hm
 refine sr<|js (qa ot)<|js (qa ot)<|js (qf ot u24)<|js (qA ot u3 u46)<|js (qg (σ:=[(0, 0)]) oF (shelf_pen_id_o0_con (IntKind.u64.wrap (List.length a1 : Int)) o0 _ hx2) call105 (.cons ot (Ren.bp rfl) (.cons ot Ren.dat .nil)) .nil (.bld rfl .nil) (RenB.tup .nil))<|nt<|sr<|js (qa ot)<|js (qf ot u24)<|js (qa oi)<|nt<|JC.join [] [(0, BldAt (IsV (gs 0)) 79 v13)] ?_ (fun _ hK15=>?_)
 ·cases hm
  exact JE.end0<|JE.retS0 hk (.bld rfl .nil) (.bld rfl .nil) rfl
 ·refine cb<|JC.loop _ (fun s21=>[(2, BM 69 [BP 0 0]), (13, D (RSlice R_api_Sub) a1), (14, D (RInt .i64) (List.length a1 : Int)), (15, D (RInt .i64) s21.1)]) (fun s21=>[(0, BldAt (IsV (gs 0)) 79 s21.2)]) _ ?_ _ hl14 ml
  intro s21 r20 _ hs17 hB18 hE19
  obtain ⟨v7, v8⟩ := s21
  try dsimp only at hs17
  refine sr<|js (qh ot ot)<|nt<|cs<|cn ot hs17 (fun hc23 hs17=>?_) fun hc23 hs17=>?_
  ·obtain ⟨hb24,hs17⟩ :=og hs17
   obtain ⟨x25,hx26,hs17⟩ :=ob hs17
   cases hs17
   exact ck<|tn<|cs<|cb<|sr<|js (qj ot ot u24 ty66 hb24)<|js (qi ot ty66)<|js (qp (i:=4) zero66)<|js (qo ot ot ty66)<|nt<|cr<|js (qa ot)<|js (qn ot ty66)<|js (qH (σ:=[(0, 0)]) ot (shelf_pen_sub_o0_con (nth a1 v7) v8 _ hx26) call69 (.cons ot Ren.dat .nil) (.cons (Ren.bp rfl) .nil) (.bld rfl .nil) (RenB.tup .nil))<|jn<|bn<|tn<|cr<|js (qk ot oi)<|js (qa ot)<|jn<|mt (hB18 _ rfl)
  ·cases hs17
   cases (hE19 _ rfl)
   exact cx<|tx<|tx<|bx<|mt hK15
theorem shelf_list_uint64_o0__shelf_pen_id_o0_con (a1 o0 r) (hm : shelf_list_uint64_o0__shelf_pen_id_o0 a1 o0 = some r) : SC 124 [(0,Bld 79 o0)] [BP 0 0,D (RSlice (RInt .u64)) a1,BM 105 [BP 0 0]] [(0,Bld 79 r)] (TUP []) := by
 refine SI func124 (fun gs=>[(0, BldAt (IsV (gs 0)) 79 o0)]) (fun gs=>(.bld .nil)) fun w O gs own hk=>?_
 unfold shelf_list_uint64_o0__shelf_pen_id_o0 at hm
 obtain ⟨x1,hx2,hm⟩ :=ob hm
 obtain ⟨v13,hl14,hm⟩ :=ob hm
 refine sr<|js (qa ot)<|js (qa ot)<|js (qf ot u86)<|js (qA ot u3 u46)<|js (qg (σ:=[(0, 0)]) oF (shelf_pen_id_o0_con (IntKind.u64.wrap (List.length a1 : Int)) o0 _ hx2) call105 (.cons ot (Ren.bp rfl) (.cons ot Ren.dat .nil)) .nil (.bld rfl .nil) (RenB.tup .nil))<|nt<|sr<|js (qa ot)<|js (qf ot u86)<|js (qa oi)<|nt<|JC.join [] [(0, BldAt (IsV (gs 0)) 79 v13)] ?_ (fun _ hK15=>?_)
 ·cases hm
  exact JE.end0<|JE.retS0 hk (.bld rfl .nil) (.bld rfl .nil) rfl
 ·refine cb<|JC.loop _ (fun s21=>[(2, BM 105 [BP 0 0]), (13, D (RSlice (RInt .u64)) a1), (14, D (RInt .i64) (List.length a1 : Int)), (15, D (RInt .i64) s21.1)]) (fun s21=>[(0, BldAt (IsV (gs 0)) 79 s21.2)]) _ ?_ _ hl14 ml
  intro s21 r20 _ hs17 hB18 hE19
  obtain ⟨v7, v8⟩ := s21
  try dsimp only at hs17
  refine sr<|js (qh ot ot)<|nt<|cs<|cn ot hs17 (fun hc23 hs17=>?_) fun hc23 hs17=>?_
  ·obtain ⟨hb24,hs17⟩ :=og hs17
   obtain ⟨x25,hx26,hs17⟩ :=ob hs17
   cases hs17
   exact ck<|tn<|cs<|cb<|sr<|js (qj ot ot u86 ty46 hb24)<|js (qi ot ty46)<|js (qb ot)<|nt<|cr<|js (qa ot)<|js (qa ot)<|js (qH (σ:=[(0, 0)]) ot (shelf_pen_id_o0_con (nth a1 v7) v8 _ hx26) call105 (.cons ot Ren.dat .nil) (.cons (Ren.bp rfl) .nil) (.bld rfl .nil) (RenB.tup .nil))<|jn<|bn<|tn<|cr<|js (qk ot oi)<|js (qa ot)<|jn<|mt (hB18 _ rfl)
  ·cases hs17
   cases (hE19 _ rfl)
   exact cx<|tx<|tx<|bx<|mt hK15
theorem shelf_pen_out_o0_con (a1 o0 r) (hm : shelf_pen_out_o0 a1 o0 = some r) : SC 71 [(0,Bld 79 o0)] [BP 0 0,D R_api_Out a1] [(0,Bld 79 r)] (TUP []) := by
 refine SI func71 (fun gs=>[(0, BldAt (IsV (gs 0)) 79 o0)]) (fun gs=>(.bld .nil)) fun w O gs own hk=>?_
 unfold shelf_pen_out_o0 at hm
 obtain ⟨x1,hx2,hm⟩ :=ob hm
 obtain ⟨x3,hx4,hm⟩ :=ob hm
 obtain ⟨x5,hx6,hm⟩ :=ob hm
 obtain ⟨x7,hx8,hm⟩ :=ob hm
 obtain ⟨x9,hx10,hm⟩ :=ob hm
 cases hm
 exact sr<|js (qq (i:=2) ot)<|nt<|sr<|js (qa ot)<|js (qc ot (fp pl88))<|js (qd ot fo_api_Out_0 ty46)<|js (qg (σ:=[(0, 0)]) oF (shelf_pen_id_o0_con (api_Out.Id a1) o0 _ hx2) call105 (.cons ot (Ren.bp rfl) (.cons ot Ren.dat .nil)) .nil (.bld rfl .nil) (RenB.tup .nil))<|nt<|sr<|js (qa ot)<|js (qc ot (fp pl88))<|js (qd ot fo_api_Out_1 ty9)<|js (qg (σ:=[(0, 0)]) oF (shelf_pen_text_o0_con (api_Out.Sub a1) x1 _ hx4) call103 (.cons ot (Ren.bp rfl) (.cons ot Ren.dat .nil)) .nil (.bld rfl .nil) (RenB.tup .nil))<|nt<|sr<|js (qa ot)<|js (qc ot (fp pl88))<|js (qd ot fo_api_Out_2 ty86)<|js (qa ot)<|js (qG (Caps.cons ot (Caps.nil (xs := []))))<|js (qg (σ:=[(0, 0)]) oF (shelf_list_uint64_o0__shelf_pen_id_o0_con (api_Out.Ids a1) x3 _ hx6) call124 (.cons ot (Ren.bp rfl) (.cons ot Ren.dat (.cons ot (Ren.bm (.cons (Ren.bp rfl) .nil)) .nil))) .nil (.bld rfl .nil) (RenB.tup .nil))<|nt<|sr<|js (qa ot)<|js (qc ot (fp pl88))<|js (qd ot fo_api_Out_3 ty3)<|js (qg (σ:=[(0, 0)]) oF (shelf_pen_number_o0_con (api_Out.Tries a1) x5 _ hx8) call63 (.cons ot (Ren.bp rfl) (.cons ot Ren.dat .nil)) .nil (.bld rfl .nil) (RenB.tup .nil))<|nt<|cr<|js (qa ot)<|js (qc ot (fp pl88))<|js (qd ot fo_api_Out_4 ty3)<|js (qg (σ:=[(0, 0)]) oF (shelf_pen_number_o0_con (api_Out.Due a1) x7 _ hx10) call63 (.cons ot (Ren.bp rfl) (.cons ot Ren.dat .nil)) .nil (.bld rfl .nil) (RenB.tup .nil))<|jn<|JE.end0<|JE.retS0 hk (.bld rfl .nil) (.bld rfl .nil) rfl
theorem shelf_list_api_Out_o0__shelf_pen_out_o0_con (a1 o0 r) (hm : shelf_list_api_Out_o0__shelf_pen_out_o0 a1 o0 = some r) : SC 70 [(0,Bld 79 o0)] [BP 0 0,D (RSlice R_api_Out) a1,BM 71 [BP 0 0]] [(0,Bld 79 r)] (TUP []) := by
 refine SI func70 (fun gs=>[(0, BldAt (IsV (gs 0)) 79 o0)]) (fun gs=>(.bld .nil)) fun w O gs own hk=>?_
 unfold shelf_list_api_Out_o0__shelf_pen_out_o0 at hm
 obtain ⟨x1,hx2,hm⟩ :=ob hm
 obtain ⟨v13,hl14,hm⟩ :=ob hm
 refine sr<|js (qa ot)<|js (qa ot)<|js (qf ot u25)<|js (qA ot u3 u46)<|js (qg (σ:=[(0, 0)]) oF (shelf_pen_id_o0_con (IntKind.u64.wrap (List.length a1 : Int)) o0 _ hx2) call105 (.cons ot (Ren.bp rfl) (.cons ot Ren.dat .nil)) .nil (.bld rfl .nil) (RenB.tup .nil))<|nt<|sr<|js (qa ot)<|js (qf ot u25)<|js (qa oi)<|nt<|JC.join [] [(0, BldAt (IsV (gs 0)) 79 v13)] ?_ (fun _ hK15=>?_)
 ·cases hm
  exact JE.end0<|JE.retS0 hk (.bld rfl .nil) (.bld rfl .nil) rfl
 ·refine cb<|JC.loop _ (fun s21=>[(2, BM 71 [BP 0 0]), (13, D (RSlice R_api_Out) a1), (14, D (RInt .i64) (List.length a1 : Int)), (15, D (RInt .i64) s21.1)]) (fun s21=>[(0, BldAt (IsV (gs 0)) 79 s21.2)]) _ ?_ _ hl14 ml
  intro s21 r20 _ hs17 hB18 hE19
  obtain ⟨v7, v8⟩ := s21
  try dsimp only at hs17
  refine sr<|js (qh ot ot)<|nt<|cs<|cn ot hs17 (fun hc23 hs17=>?_) fun hc23 hs17=>?_
  ·obtain ⟨hb24,hs17⟩ :=og hs17
   obtain ⟨x25,hx26,hs17⟩ :=ob hs17
   cases hs17
   exact ck<|tn<|cs<|cb<|sr<|js (qj ot ot u25 ty88 hb24)<|js (qi ot ty88)<|js (qp (i:=4) zero88)<|js (qo ot ot ty88)<|nt<|cr<|js (qa ot)<|js (qn ot ty88)<|js (qH (σ:=[(0, 0)]) ot (shelf_pen_out_o0_con (nth a1 v7) v8 _ hx26) call71 (.cons ot Ren.dat .nil) (.cons (Ren.bp rfl) .nil) (.bld rfl .nil) (RenB.tup .nil))<|jn<|bn<|tn<|cr<|js (qk ot oi)<|js (qa ot)<|jn<|mt (hB18 _ rfl)
  ·cases hs17
   cases (hE19 _ rfl)
   exact cx<|tx<|tx<|bx<|mt hK15
theorem shelf_pen_dead_o0_con (a1 o0 r) (hm : shelf_pen_dead_o0 a1 o0 = some r) : SC 73 [(0,Bld 79 o0)] [BP 0 0,D R_api_Dead a1] [(0,Bld 79 r)] (TUP []) := by
 refine SI func73 (fun gs=>[(0, BldAt (IsV (gs 0)) 79 o0)]) (fun gs=>(.bld .nil)) fun w O gs own hk=>?_
 unfold shelf_pen_dead_o0 at hm
 obtain ⟨x1,hx2,hm⟩ :=ob hm
 obtain ⟨x3,hx4,hm⟩ :=ob hm
 cases hm
 exact sr<|js (qq (i:=2) ot)<|nt<|sr<|js (qa ot)<|js (qc ot (fp pl72))<|js (qd ot fo_api_Dead_0 ty9)<|js (qg (σ:=[(0, 0)]) oF (shelf_pen_text_o0_con (api_Dead.Sub a1) o0 _ hx2) call103 (.cons ot (Ren.bp rfl) (.cons ot Ren.dat .nil)) .nil (.bld rfl .nil) (RenB.tup .nil))<|nt<|cr<|js (qa ot)<|js (qc ot (fp pl72))<|js (qd ot fo_api_Dead_1 ty9)<|js (qg (σ:=[(0, 0)]) oF (shelf_pen_text_o0_con (api_Dead.E a1) x1 _ hx4) call103 (.cons ot (Ren.bp rfl) (.cons ot Ren.dat .nil)) .nil (.bld rfl .nil) (RenB.tup .nil))<|jn<|JE.end0<|JE.retS0 hk (.bld rfl .nil) (.bld rfl .nil) rfl
theorem shelf_list_api_Dead_o0__shelf_pen_dead_o0_con (a1 o0 r) (hm : shelf_list_api_Dead_o0__shelf_pen_dead_o0 a1 o0 = some r) : SC 72 [(0,Bld 79 o0)] [BP 0 0,D (RSlice R_api_Dead) a1,BM 73 [BP 0 0]] [(0,Bld 79 r)] (TUP []) := by
 refine SI func72 (fun gs=>[(0, BldAt (IsV (gs 0)) 79 o0)]) (fun gs=>(.bld .nil)) fun w O gs own hk=>?_
 unfold shelf_list_api_Dead_o0__shelf_pen_dead_o0 at hm
 obtain ⟨x1,hx2,hm⟩ :=ob hm
 obtain ⟨v13,hl14,hm⟩ :=ob hm
 refine sr<|js (qa ot)<|js (qa ot)<|js (qf ot u26)<|js (qA ot u3 u46)<|js (qg (σ:=[(0, 0)]) oF (shelf_pen_id_o0_con (IntKind.u64.wrap (List.length a1 : Int)) o0 _ hx2) call105 (.cons ot (Ren.bp rfl) (.cons ot Ren.dat .nil)) .nil (.bld rfl .nil) (RenB.tup .nil))<|nt<|sr<|js (qa ot)<|js (qf ot u26)<|js (qa oi)<|nt<|JC.join [] [(0, BldAt (IsV (gs 0)) 79 v13)] ?_ (fun _ hK15=>?_)
 ·cases hm
  exact JE.end0<|JE.retS0 hk (.bld rfl .nil) (.bld rfl .nil) rfl
 ·refine cb<|JC.loop _ (fun s21=>[(2, BM 73 [BP 0 0]), (13, D (RSlice R_api_Dead) a1), (14, D (RInt .i64) (List.length a1 : Int)), (15, D (RInt .i64) s21.1)]) (fun s21=>[(0, BldAt (IsV (gs 0)) 79 s21.2)]) _ ?_ _ hl14 ml
  intro s21 r20 _ hs17 hB18 hE19
  obtain ⟨v7, v8⟩ := s21
  try dsimp only at hs17
  refine sr<|js (qh ot ot)<|nt<|cs<|cn ot hs17 (fun hc23 hs17=>?_) fun hc23 hs17=>?_
  ·obtain ⟨hb24,hs17⟩ :=og hs17
   obtain ⟨x25,hx26,hs17⟩ :=ob hs17
   cases hs17
   exact ck<|tn<|cs<|cb<|sr<|js (qj ot ot u26 ty72 hb24)<|js (qi ot ty72)<|js (qp (i:=4) zero72)<|js (qo ot ot ty72)<|nt<|cr<|js (qa ot)<|js (qn ot ty72)<|js (qH (σ:=[(0, 0)]) ot (shelf_pen_dead_o0_con (nth a1 v7) v8 _ hx26) call73 (.cons ot Ren.dat .nil) (.cons (Ren.bp rfl) .nil) (.bld rfl .nil) (RenB.tup .nil))<|jn<|bn<|tn<|cr<|js (qk ot oi)<|js (qa ot)<|jn<|mt (hB18 _ rfl)
  ·cases hs17
   cases (hE19 _ rfl)
   exact cx<|tx<|tx<|bx<|mt hK15
theorem shelf_pen_router_o0_con (a1 o0 r) (hm : shelf_pen_router_o0 a1 o0 = some r) : SC 26 [(0,Bld 79 o0)] [BP 0 0,D R_api_Router a1] [(0,Bld 79 r)] (TUP []) := by
 refine SI func26 (fun gs=>[(0, BldAt (IsV (gs 0)) 79 o0)]) (fun gs=>(.bld .nil)) fun w O gs own hk=>?_
 unfold shelf_pen_router_o0 at hm
 obtain ⟨x1,hx2,hm⟩ :=ob hm
 obtain ⟨x3,hx4,hm⟩ :=ob hm
 obtain ⟨x5,hx6,hm⟩ :=ob hm
 obtain ⟨x7,hx8,hm⟩ :=ob hm
 obtain ⟨x9,hx10,hm⟩ :=ob hm
 obtain ⟨x11,hx12,hm⟩ :=ob hm
 obtain ⟨x13,hx14,hm⟩ :=ob hm
 obtain ⟨x15,hx16,hm⟩ :=ob hm
 cases hm
 exact sr<|js (qq (i:=2) ot)<|nt<|sr<|js (qa ot)<|js (qc ot (fp pl28))<|js (qd ot fo_api_Router_0 ty3)<|js (qg (σ:=[(0, 0)]) oF (shelf_pen_number_o0_con (api_Router.Now a1) o0 _ hx2) call63 (.cons ot (Ren.bp rfl) (.cons ot Ren.dat .nil)) .nil (.bld rfl .nil) (RenB.tup .nil))<|nt<|sr<|js (qa ot)<|js (qc ot (fp pl28))<|js (qd ot fo_api_Router_1 ty22)<|js (qa ot)<|js (qG (Caps.cons ot (Caps.nil (xs := []))))<|js (qg (σ:=[(0, 0)]) oF (shelf_list_api_Topic_o0__shelf_pen_topic_o0_con (api_Router.Topics a1) x1 _ hx4) call64 (.cons ot (Ren.bp rfl) (.cons ot Ren.dat (.cons ot (Ren.bm (.cons (Ren.bp rfl) .nil)) .nil))) .nil (.bld rfl .nil) (RenB.tup .nil))<|nt<|sr<|js (qa ot)<|js (qc ot (fp pl28))<|js (qd ot fo_api_Router_2 ty23)<|js (qa ot)<|js (qG (Caps.cons ot (Caps.nil (xs := []))))<|js (qg (σ:=[(0, 0)]) oF (shelf_list_api_Last_o0__shelf_pen_last_o0_con (api_Router.Lasts a1) x3 _ hx6) call66 (.cons ot (Ren.bp rfl) (.cons ot Ren.dat (.cons ot (Ren.bm (.cons (Ren.bp rfl) .nil)) .nil))) .nil (.bld rfl .nil) (RenB.tup .nil))<|nt<|sr<|js (qa ot)<|js (qc ot (fp pl28))<|js (qd ot fo_api_Router_3 ty24)<|js (qa ot)<|js (qG (Caps.cons ot (Caps.nil (xs := []))))<|js (qg (σ:=[(0, 0)]) oF (shelf_list_api_Sub_o0__shelf_pen_sub_o0_con (api_Router.Subs a1) x5 _ hx8) call68 (.cons ot (Ren.bp rfl) (.cons ot Ren.dat (.cons ot (Ren.bm (.cons (Ren.bp rfl) .nil)) .nil))) .nil (.bld rfl .nil) (RenB.tup .nil))<|nt<|sr<|js (qa ot)<|js (qc ot (fp pl28))<|js (qd ot fo_api_Router_4 ty3)<|js (qg (σ:=[(0, 0)]) oF (shelf_pen_number_o0_con (api_Router.Total a1) x7 _ hx10) call63 (.cons ot (Ren.bp rfl) (.cons ot Ren.dat .nil)) .nil (.bld rfl .nil) (RenB.tup .nil))<|nt<|sr<|js (qa ot)<|js (qc ot (fp pl28))<|js (qd ot fo_api_Router_5 ty25)<|js (qa ot)<|js (qG (Caps.cons ot (Caps.nil (xs := []))))<|js (qg (σ:=[(0, 0)]) oF (shelf_list_api_Out_o0__shelf_pen_out_o0_con (api_Router.Out a1) x9 _ hx12) call70 (.cons ot (Ren.bp rfl) (.cons ot Ren.dat (.cons ot (Ren.bm (.cons (Ren.bp rfl) .nil)) .nil))) .nil (.bld rfl .nil) (RenB.tup .nil))<|nt<|sr<|js (qa ot)<|js (qc ot (fp pl28))<|js (qd ot fo_api_Router_6 ty25)<|js (qa ot)<|js (qG (Caps.cons ot (Caps.nil (xs := []))))<|js (qg (σ:=[(0, 0)]) oF (shelf_list_api_Out_o0__shelf_pen_out_o0_con (api_Router.Given a1) x11 _ hx14) call70 (.cons ot (Ren.bp rfl) (.cons ot Ren.dat (.cons ot (Ren.bm (.cons (Ren.bp rfl) .nil)) .nil))) .nil (.bld rfl .nil) (RenB.tup .nil))<|nt<|cr<|js (qa ot)<|js (qc ot (fp pl28))<|js (qd ot fo_api_Router_7 ty26)<|js (qa ot)<|js (qG (Caps.cons ot (Caps.nil (xs := []))))<|js (qg (σ:=[(0, 0)]) oF (shelf_list_api_Dead_o0__shelf_pen_dead_o0_con (api_Router.Dead a1) x13 _ hx16) call72 (.cons ot (Ren.bp rfl) (.cons ot Ren.dat (.cons ot (Ren.bm (.cons (Ren.bp rfl) .nil)) .nil))) .nil (.bld rfl .nil) (RenB.tup .nil))<|jn<|JE.end0<|JE.retS0 hk (.bld rfl .nil) (.bld rfl .nil) rfl
theorem shelf_Lay_con (a0 r) (hm : shelf_Lay a0 = some r) : PC 8 [D R_api_Router a0] (TUP [D RStr r.1,D (RInt .i64) r.2]) := by
 refine PI func8 fun w O=>?_
 unfold shelf_Lay at hm
 obtain ⟨x1,hx2,hm⟩ :=ob hm
 refine sr<|js (qq (i:=1) ot)<|js (qb oS)<|js (qb oi)<|nt<|cs<|sr<|js (qn ot ty28)<|js (qe oF (route_Check_con a0 _ hx2) call25 (ze zn))<|js (qw ot oi)<|nt<|cn ot hm (fun hc3 hm=>?_) fun hc3 hm=>?_
 ·cases hm
  exact sr<|js (qb oS)<|js (qb oi)<|nt<|ct<|tr<|JE.retB rfl (RvOK.tmp rfl) (RvOK.tmp rfl)
 ·obtain ⟨x4,hx5,hm⟩ :=ob hm
  obtain ⟨x6,hx7,hm⟩ :=ob hm
  cases hm
  exact ck<|tn<|sr<|js (vf (j:=2))<|nt<|sr<|js (qn ot ty28)<|js (qg (σ:=[(0, 2)]) oF (shelf_pen_router_o0_con a0 ([] : Str) _ hx5) call26 (.cons ot (Ren.bp rfl) (.cons ot Ren.dat .nil)) .nil (.bld rfl .nil) (RenB.tup .nil))<|nt<|sr<|js (qc ot (fp pl79))<|js (qg (σ:=[(0, 2)]) oF (strings_Builder_String_con (T := 79) x4 _ hx7) call27 (.cons ot (Ren.bp rfl) .nil) .nil (.bldDead rfl .nil) RenB.dat)<|js (qb ot)<|js (qb oi)<|nt<|ct<|JE.retB rfl (RvOK.tmp rfl) (RvOK.tmp rfl)
theorem trystref02_Same_con (a0 a1 r) (hm : trystref02_Same a0 a1 = some r) : PC 97 [D (RSlice RStr) a0,D (RSlice RStr) a1] (D RBool r) := by
 refine PI func97 fun w O=>?_
 unfold trystref02_Same at hm
 refine sr<|js (qb oB)<|nt<|cs<|sr<|js (qa ot)<|js (qf ot u40)<|js (qa ot)<|js (qf ot u40)<|js (qw ot ot)<|nt<|cn ot hm (fun hc1 hm=>?_) fun hc1 hm=>?_
 ·cases hm
  exact sr<|js (qb oB)<|nt<|ct<|tr<|JE.retA rfl (RvOK.tmp rfl)
 ·obtain ⟨e13,hl11,hm⟩ :=ob hm
  refine ck<|tn<|cs<|sr<|js (qb oi)<|nt<|JC.joinS e13 (fun s19=>[]) (fun s19=>[]) (fun s19 he=>?_) (fun _ hK12=>?_)
  ·cases he
   try dsimp only at hm
   cases hm
   exact tn<|sr<|js (qb oB)<|nt<|ct<|JE.retA rfl (RvOK.tmp rfl)
  ·refine cb<|JC.loop _ (fun s18=>[(0, D (RSlice RStr) a0), (1, D (RSlice RStr) a1), (5, D (RInt .i64) s18)]) (fun s18=>[]) _ ?_ _ hl11 ml
   intro v6 r17 _ hs14 hB15 hE16
   try dsimp only at hs14
   refine cs<|sr<|js (qa ot)<|js (qa ot)<|js (qf ot u40)<|js (qh ot ot)<|nt<|cn ot hs14 (fun hc20 hs14=>?_) fun hc20 hs14=>?_
   ·obtain ⟨hb21,hs14⟩ :=og hs14
    obtain ⟨hb22,hs14⟩ :=og hs14
    refine ck<|tn<|cs<|cb<|cs<|cd [17,18,19,20,21,22,23,24,25] mixed [⟨[(0, D (RSlice RStr) a0)], [(17, D (RSlice RStr) a0)], [], [], []⟩,⟨[(5, D (RInt .i64) v6)], [(18, D (RInt .i64) v6)], [], [], []⟩,⟨[(17, D (RSlice RStr) a0), (18, D (RInt .i64) v6)], [(19, D (RPtr RStr) (nth a0 v6))], [], [], []⟩,⟨[(19, D (RPtr RStr) (nth a0 v6))], [(20, D RStr (nth a0 v6))], [], [], []⟩,⟨[(1, D (RSlice RStr) a1)], [(21, D (RSlice RStr) a1)], [], [], []⟩,⟨[(5, D (RInt .i64) v6)], [(22, D (RInt .i64) v6)], [], [], []⟩,⟨[(21, D (RSlice RStr) a1), (22, D (RInt .i64) v6)], [(23, D (RPtr RStr) (nth a1 v6))], [], [], []⟩,⟨[(23, D (RPtr RStr) (nth a1 v6))], [(24, D RStr (nth a1 v6))], [], [], []⟩,⟨[(20, D RStr (nth a0 v6)), (24, D RStr (nth a1 v6))], [(25, D RBool ((nth a0 v6) != (nth a1 v6)))], [], [], []⟩] (al (fun _ _ h k f=>gu (qa (ot h.1)))<|al (fun _ _ h k f=>gu (qa (ot h.1)))<|al (fun _ _ h k f=>gu (qj (ot h.1) (ot h.2.1) u40 ty9 hb21))<|al (fun _ _ h k f=>gu (qi (ot h.1) ty9))<|al (fun _ _ h k f=>gu (qa (ot h.1)))<|al (fun _ _ h k f=>gu (qa (ot h.1)))<|al (fun _ _ h k f=>gu (qj (ot h.1) (ot h.2.1) u40 ty9 hb22))<|al (fun _ _ h k f=>gu (qi (ot h.1) ty9))<|al (fun _ _ h k f=>gu (qQ (ot h.1) (ot h.2.1)))<|an)<|jv [0,1,5,25] [] ?_
    refine nt<|cn ot hs14 (fun hc23 hs14=>?_) fun hc23 hs14=>?_
    ·cases hs14
     cases (hE16 _ rfl)
     cases hm
     exact sr<|js (qb oB)<|nt<|ct<|br<|tr<|tr<|br<|tr<|tr<|JE.retA rfl (RvOK.tmp rfl)
    ·cases hs14
     exact ck<|bn<|tn<|cr<|js (qa ot)<|js (qk ot oi)<|js (qb ot)<|jn<|mt (hB15 _ rfl)
   ·cases hs14
    cases (hE16 _ rfl)
    exact cx<|tx<|tx<|bx<|mt (hK12 _ rfl)
theorem trystref12_Same_con (a0 a1 r) (hm : trystref12_Same a0 a1 = some r) : PC 44 [D (RSlice R_api_Topic) a0,D (RSlice R_api_Topic) a1] (D RBool r) := by
 refine PI func44 fun w O=>?_
 unfold trystref12_Same at hm
 refine sr<|js (qb oB)<|nt<|cs<|sr<|js (qa ot)<|js (qf ot u22)<|js (qa ot)<|js (qf ot u22)<|js (qw ot ot)<|nt<|cn ot hm (fun hc1 hm=>?_) fun hc1 hm=>?_
 ·cases hm
  exact sr<|js (qb oB)<|nt<|ct<|tr<|JE.retA rfl (RvOK.tmp rfl)
 ·obtain ⟨e75,hl73,hm⟩ :=ob hm
  refine ck<|tn<|cs<|sr<|js (qb oi)<|nt<|JC.joinS e75 (fun s81=>[]) (fun s81=>[]) (fun s81 he=>?_) (fun _ hK74=>?_)
  ·cases he
   try dsimp only at hm
   cases hm
   exact tn<|sr<|js (qb oB)<|nt<|ct<|JE.retA rfl (RvOK.tmp rfl)
  ·refine cb<|JC.loop _ (fun s80=>[(0, D (RSlice R_api_Topic) a0), (1, D (RSlice R_api_Topic) a1), (5, D (RInt .i64) s80)]) (fun s80=>[]) _ ?_ _ hl73 ml
   intro v37 r79 _ hs76 hB77 hE78
   try dsimp only at hs76
   refine cs<|sr<|js (qa ot)<|js (qa ot)<|js (qf ot u22)<|js (qh ot ot)<|nt<|cn ot hs76 (fun hc82 hs76=>?_) fun hc82 hs76=>?_
   ·obtain ⟨hb83,hs76⟩ :=og hs76
    obtain ⟨hb84,hs76⟩ :=og hs76
    obtain ⟨hb88,hs76⟩ :=og hs76
    obtain ⟨hb94,hs76⟩ :=og hs76
    obtain ⟨hb102,hs76⟩ :=og hs76
    obtain ⟨hb108,hs76⟩ :=og hs76
    obtain ⟨x112,hx113,hs76⟩ :=ob hs76
    refine ck<|tn<|cs<|cb<|cs<|cd [17,18,19,20,21,22,23,24,25,26,27,28,29,30,31,32,33,34,35,36,37,38,39,40,41,42,43,44,45,46,47,48,49,50,51,52,53,54] mixed (⟨[(0, D (RSlice R_api_Topic) a0)], [(17, D (RSlice R_api_Topic) a0)], [], [], []⟩::⟨[(5, D (RInt .i64) v37)], [(18, D (RInt .i64) v37)], [], [], []⟩::⟨[(17, D (RSlice R_api_Topic) a0), (18, D (RInt .i64) v37)], [(19, D (RPtr R_api_Topic) (nth a0 v37))], [], [], []⟩::⟨[(19, D (RPtr R_api_Topic) (nth a0 v37))], [(20, D (RPtr RStr) (api_Topic.Name (nth a0 v37)))], [], [], []⟩::⟨[(20, D (RPtr RStr) (api_Topic.Name (nth a0 v37)))], [(21, D RStr (api_Topic.Name (nth a0 v37)))], [], [], []⟩::⟨[(1, D (RSlice R_api_Topic) a1)], [(22, D (RSlice R_api_Topic) a1)], [], [], []⟩::⟨[(5, D (RInt .i64) v37)], [(23, D (RInt .i64) v37)], [], [], []⟩::⟨[(22, D (RSlice R_api_Topic) a1), (23, D (RInt .i64) v37)], [(24, D (RPtr R_api_Topic) (nth a1 v37))], [], [], []⟩::⟨[(24, D (RPtr R_api_Topic) (nth a1 v37))], [(25, D (RPtr RStr) (api_Topic.Name (nth a1 v37)))], [], [], []⟩::⟨[(25, D (RPtr RStr) (api_Topic.Name (nth a1 v37)))], [(26, D RStr (api_Topic.Name (nth a1 v37)))], [], [], []⟩::⟨[(21, D RStr (api_Topic.Name (nth a0 v37))), (26, D RStr (api_Topic.Name (nth a1 v37)))], [(27, D RBool ((api_Topic.Name (nth a0 v37)) != (api_Topic.Name (nth a1 v37))))], [], [], []⟩::⟨[(27, D RBool ((api_Topic.Name (nth a0 v37)) != (api_Topic.Name (nth a1 v37))))], [(28, D RBool ((api_Topic.Name (nth a0 v37)) != (api_Topic.Name (nth a1 v37))))], [], [], []⟩::⟨[(28, D RBool ((api_Topic.Name (nth a0 v37)) != (api_Topic.Name (nth a1 v37)))), (0, D (RSlice R_api_Topic) a0)], [(29, Ent.when (((api_Topic.Name (nth a0 v37)) != (api_Topic.Name (nth a1 v37))) = false) (D (RSlice R_api_Topic) a0))], [], [], []⟩::⟨[(28, D RBool ((api_Topic.Name (nth a0 v37)) != (api_Topic.Name (nth a1 v37)))), (5, D (RInt .i64) v37)], [(30, Ent.when (((api_Topic.Name (nth a0 v37)) != (api_Topic.Name (nth a1 v37))) = false) (D (RInt .i64) v37))], [], [], []⟩::⟨[(28, D RBool ((api_Topic.Name (nth a0 v37)) != (api_Topic.Name (nth a1 v37)))), (29, Ent.when (((api_Topic.Name (nth a0 v37)) != (api_Topic.Name (nth a1 v37))) = false) (D (RSlice R_api_Topic) a0)), (30, Ent.when (((api_Topic.Name (nth a0 v37)) != (api_Topic.Name (nth a1 v37))) = false) (D (RInt .i64) v37))], [(31, Ent.when (((api_Topic.Name (nth a0 v37)) != (api_Topic.Name (nth a1 v37))) = false) (D (RPtr R_api_Topic) (nth a0 v37)))], [], [], []⟩::⟨[(28, D RBool ((api_Topic.Name (nth a0 v37)) != (api_Topic.Name (nth a1 v37)))), (31, Ent.when (((api_Topic.Name (nth a0 v37)) != (api_Topic.Name (nth a1 v37))) = false) (D (RPtr R_api_Topic) (nth a0 v37)))], [(32, Ent.when (((api_Topic.Name (nth a0 v37)) != (api_Topic.Name (nth a1 v37))) = false) (D (RPtr (RInt .i64)) (api_Topic.First (nth a0 v37))))], [], [], []⟩::⟨[(28, D RBool ((api_Topic.Name (nth a0 v37)) != (api_Topic.Name (nth a1 v37)))), (32, Ent.when (((api_Topic.Name (nth a0 v37)) != (api_Topic.Name (nth a1 v37))) = false) (D (RPtr (RInt .i64)) (api_Topic.First (nth a0 v37))))], [(33, Ent.when (((api_Topic.Name (nth a0 v37)) != (api_Topic.Name (nth a1 v37))) = false) (D (RInt .i64) (api_Topic.First (nth a0 v37))))], [], [], []⟩::⟨[(28, D RBool ((api_Topic.Name (nth a0 v37)) != (api_Topic.Name (nth a1 v37)))), (1, D (RSlice R_api_Topic) a1)], [(34, Ent.when (((api_Topic.Name (nth a0 v37)) != (api_Topic.Name (nth a1 v37))) = false) (D (RSlice R_api_Topic) a1))], [], [], []⟩::⟨[(28, D RBool ((api_Topic.Name (nth a0 v37)) != (api_Topic.Name (nth a1 v37)))), (5, D (RInt .i64) v37)], [(35, Ent.when (((api_Topic.Name (nth a0 v37)) != (api_Topic.Name (nth a1 v37))) = false) (D (RInt .i64) v37))], [], [], []⟩::⟨[(28, D RBool ((api_Topic.Name (nth a0 v37)) != (api_Topic.Name (nth a1 v37)))), (34, Ent.when (((api_Topic.Name (nth a0 v37)) != (api_Topic.Name (nth a1 v37))) = false) (D (RSlice R_api_Topic) a1)), (35, Ent.when (((api_Topic.Name (nth a0 v37)) != (api_Topic.Name (nth a1 v37))) = false) (D (RInt .i64) v37))], [(36, Ent.when (((api_Topic.Name (nth a0 v37)) != (api_Topic.Name (nth a1 v37))) = false) (D (RPtr R_api_Topic) (nth a1 v37)))], [], [], []⟩::⟨[(28, D RBool ((api_Topic.Name (nth a0 v37)) != (api_Topic.Name (nth a1 v37)))), (36, Ent.when (((api_Topic.Name (nth a0 v37)) != (api_Topic.Name (nth a1 v37))) = false) (D (RPtr R_api_Topic) (nth a1 v37)))], [(37, Ent.when (((api_Topic.Name (nth a0 v37)) != (api_Topic.Name (nth a1 v37))) = false) (D (RPtr (RInt .i64)) (api_Topic.First (nth a1 v37))))], [], [], []⟩::⟨[(28, D RBool ((api_Topic.Name (nth a0 v37)) != (api_Topic.Name (nth a1 v37)))), (37, Ent.when (((api_Topic.Name (nth a0 v37)) != (api_Topic.Name (nth a1 v37))) = false) (D (RPtr (RInt .i64)) (api_Topic.First (nth a1 v37))))], [(38, Ent.when (((api_Topic.Name (nth a0 v37)) != (api_Topic.Name (nth a1 v37))) = false) (D (RInt .i64) (api_Topic.First (nth a1 v37))))], [], [], []⟩::⟨[(28, D RBool ((api_Topic.Name (nth a0 v37)) != (api_Topic.Name (nth a1 v37)))), (33, Ent.when (((api_Topic.Name (nth a0 v37)) != (api_Topic.Name (nth a1 v37))) = false) (D (RInt .i64) (api_Topic.First (nth a0 v37)))), (38, Ent.when (((api_Topic.Name (nth a0 v37)) != (api_Topic.Name (nth a1 v37))) = false) (D (RInt .i64) (api_Topic.First (nth a1 v37))))], [(39, Ent.when (((api_Topic.Name (nth a0 v37)) != (api_Topic.Name (nth a1 v37))) = false) (D RBool ((api_Topic.First (nth a0 v37)) != (api_Topic.First (nth a1 v37)))))], [], [], []⟩::⟨[(28, D RBool ((api_Topic.Name (nth a0 v37)) != (api_Topic.Name (nth a1 v37)))), (39, Ent.when (((api_Topic.Name (nth a0 v37)) != (api_Topic.Name (nth a1 v37))) = false) (D RBool ((api_Topic.First (nth a0 v37)) != (api_Topic.First (nth a1 v37)))))], [(40, D RBool (((api_Topic.Name (nth a0 v37)) != (api_Topic.Name (nth a1 v37))) || ((api_Topic.First (nth a0 v37)) != (api_Topic.First (nth a1 v37)))))], [], [], []⟩::⟨[(40, D RBool (((api_Topic.Name (nth a0 v37)) != (api_Topic.Name (nth a1 v37))) || ((api_Topic.First (nth a0 v37)) != (api_Topic.First (nth a1 v37)))))], [(41, D RBool (((api_Topic.Name (nth a0 v37)) != (api_Topic.Name (nth a1 v37))) || ((api_Topic.First (nth a0 v37)) != (api_Topic.First (nth a1 v37)))))], [], [], []⟩::⟨[(41, D RBool (((api_Topic.Name (nth a0 v37)) != (api_Topic.Name (nth a1 v37))) || ((api_Topic.First (nth a0 v37)) != (api_Topic.First (nth a1 v37))))), (0, D (RSlice R_api_Topic) a0)], [(42, Ent.when ((((api_Topic.Name (nth a0 v37)) != (api_Topic.Name (nth a1 v37))) || ((api_Topic.First (nth a0 v37)) != (api_Topic.First (nth a1 v37)))) = false) (D (RSlice R_api_Topic) a0))], [], [], []⟩::⟨[(41, D RBool (((api_Topic.Name (nth a0 v37)) != (api_Topic.Name (nth a1 v37))) || ((api_Topic.First (nth a0 v37)) != (api_Topic.First (nth a1 v37))))), (5, D (RInt .i64) v37)], [(43, Ent.when ((((api_Topic.Name (nth a0 v37)) != (api_Topic.Name (nth a1 v37))) || ((api_Topic.First (nth a0 v37)) != (api_Topic.First (nth a1 v37)))) = false) (D (RInt .i64) v37))], [], [], []⟩::⟨[(41, D RBool (((api_Topic.Name (nth a0 v37)) != (api_Topic.Name (nth a1 v37))) || ((api_Topic.First (nth a0 v37)) != (api_Topic.First (nth a1 v37))))), (42, Ent.when ((((api_Topic.Name (nth a0 v37)) != (api_Topic.Name (nth a1 v37))) || ((api_Topic.First (nth a0 v37)) != (api_Topic.First (nth a1 v37)))) = false) (D (RSlice R_api_Topic) a0)), (43, Ent.when ((((api_Topic.Name (nth a0 v37)) != (api_Topic.Name (nth a1 v37))) || ((api_Topic.First (nth a0 v37)) != (api_Topic.First (nth a1 v37)))) = false) (D (RInt .i64) v37))], [(44, Ent.when ((((api_Topic.Name (nth a0 v37)) != (api_Topic.Name (nth a1 v37))) || ((api_Topic.First (nth a0 v37)) != (api_Topic.First (nth a1 v37)))) = false) (D (RPtr R_api_Topic) (nth a0 v37)))], [], [], []⟩::⟨[(41, D RBool (((api_Topic.Name (nth a0 v37)) != (api_Topic.Name (nth a1 v37))) || ((api_Topic.First (nth a0 v37)) != (api_Topic.First (nth a1 v37))))), (44, Ent.when ((((api_Topic.Name (nth a0 v37)) != (api_Topic.Name (nth a1 v37))) || ((api_Topic.First (nth a0 v37)) != (api_Topic.First (nth a1 v37)))) = false) (D (RPtr R_api_Topic) (nth a0 v37)))], [(45, Ent.when ((((api_Topic.Name (nth a0 v37)) != (api_Topic.Name (nth a1 v37))) || ((api_Topic.First (nth a0 v37)) != (api_Topic.First (nth a1 v37)))) = false) (D (RPtr (RSlice RStr)) (api_Topic.Log (nth a0 v37))))], [], [], []⟩::⟨[(41, D RBool (((api_Topic.Name (nth a0 v37)) != (api_Topic.Name (nth a1 v37))) || ((api_Topic.First (nth a0 v37)) != (api_Topic.First (nth a1 v37))))), (45, Ent.when ((((api_Topic.Name (nth a0 v37)) != (api_Topic.Name (nth a1 v37))) || ((api_Topic.First (nth a0 v37)) != (api_Topic.First (nth a1 v37)))) = false) (D (RPtr (RSlice RStr)) (api_Topic.Log (nth a0 v37))))], [(46, Ent.when ((((api_Topic.Name (nth a0 v37)) != (api_Topic.Name (nth a1 v37))) || ((api_Topic.First (nth a0 v37)) != (api_Topic.First (nth a1 v37)))) = false) (D (RSlice RStr) (api_Topic.Log (nth a0 v37))))], [], [], []⟩::⟨[(41, D RBool (((api_Topic.Name (nth a0 v37)) != (api_Topic.Name (nth a1 v37))) || ((api_Topic.First (nth a0 v37)) != (api_Topic.First (nth a1 v37))))), (1, D (RSlice R_api_Topic) a1)], [(47, Ent.when ((((api_Topic.Name (nth a0 v37)) != (api_Topic.Name (nth a1 v37))) || ((api_Topic.First (nth a0 v37)) != (api_Topic.First (nth a1 v37)))) = false) (D (RSlice R_api_Topic) a1))], [], [], []⟩::⟨[(41, D RBool (((api_Topic.Name (nth a0 v37)) != (api_Topic.Name (nth a1 v37))) || ((api_Topic.First (nth a0 v37)) != (api_Topic.First (nth a1 v37))))), (5, D (RInt .i64) v37)], [(48, Ent.when ((((api_Topic.Name (nth a0 v37)) != (api_Topic.Name (nth a1 v37))) || ((api_Topic.First (nth a0 v37)) != (api_Topic.First (nth a1 v37)))) = false) (D (RInt .i64) v37))], [], [], []⟩::⟨[(41, D RBool (((api_Topic.Name (nth a0 v37)) != (api_Topic.Name (nth a1 v37))) || ((api_Topic.First (nth a0 v37)) != (api_Topic.First (nth a1 v37))))), (47, Ent.when ((((api_Topic.Name (nth a0 v37)) != (api_Topic.Name (nth a1 v37))) || ((api_Topic.First (nth a0 v37)) != (api_Topic.First (nth a1 v37)))) = false) (D (RSlice R_api_Topic) a1)), (48, Ent.when ((((api_Topic.Name (nth a0 v37)) != (api_Topic.Name (nth a1 v37))) || ((api_Topic.First (nth a0 v37)) != (api_Topic.First (nth a1 v37)))) = false) (D (RInt .i64) v37))], [(49, Ent.when ((((api_Topic.Name (nth a0 v37)) != (api_Topic.Name (nth a1 v37))) || ((api_Topic.First (nth a0 v37)) != (api_Topic.First (nth a1 v37)))) = false) (D (RPtr R_api_Topic) (nth a1 v37)))], [], [], []⟩::⟨[(41, D RBool (((api_Topic.Name (nth a0 v37)) != (api_Topic.Name (nth a1 v37))) || ((api_Topic.First (nth a0 v37)) != (api_Topic.First (nth a1 v37))))), (49, Ent.when ((((api_Topic.Name (nth a0 v37)) != (api_Topic.Name (nth a1 v37))) || ((api_Topic.First (nth a0 v37)) != (api_Topic.First (nth a1 v37)))) = false) (D (RPtr R_api_Topic) (nth a1 v37)))], [(50, Ent.when ((((api_Topic.Name (nth a0 v37)) != (api_Topic.Name (nth a1 v37))) || ((api_Topic.First (nth a0 v37)) != (api_Topic.First (nth a1 v37)))) = false) (D (RPtr (RSlice RStr)) (api_Topic.Log (nth a1 v37))))], [], [], []⟩::⟨[(41, D RBool (((api_Topic.Name (nth a0 v37)) != (api_Topic.Name (nth a1 v37))) || ((api_Topic.First (nth a0 v37)) != (api_Topic.First (nth a1 v37))))), (50, Ent.when ((((api_Topic.Name (nth a0 v37)) != (api_Topic.Name (nth a1 v37))) || ((api_Topic.First (nth a0 v37)) != (api_Topic.First (nth a1 v37)))) = false) (D (RPtr (RSlice RStr)) (api_Topic.Log (nth a1 v37))))], [(51, Ent.when ((((api_Topic.Name (nth a0 v37)) != (api_Topic.Name (nth a1 v37))) || ((api_Topic.First (nth a0 v37)) != (api_Topic.First (nth a1 v37)))) = false) (D (RSlice RStr) (api_Topic.Log (nth a1 v37))))], [], [], []⟩::⟨[(41, D RBool (((api_Topic.Name (nth a0 v37)) != (api_Topic.Name (nth a1 v37))) || ((api_Topic.First (nth a0 v37)) != (api_Topic.First (nth a1 v37))))), (46, Ent.when ((((api_Topic.Name (nth a0 v37)) != (api_Topic.Name (nth a1 v37))) || ((api_Topic.First (nth a0 v37)) != (api_Topic.First (nth a1 v37)))) = false) (D (RSlice RStr) (api_Topic.Log (nth a0 v37)))), (51, Ent.when ((((api_Topic.Name (nth a0 v37)) != (api_Topic.Name (nth a1 v37))) || ((api_Topic.First (nth a0 v37)) != (api_Topic.First (nth a1 v37)))) = false) (D (RSlice RStr) (api_Topic.Log (nth a1 v37))))], [(52, Ent.when ((((api_Topic.Name (nth a0 v37)) != (api_Topic.Name (nth a1 v37))) || ((api_Topic.First (nth a0 v37)) != (api_Topic.First (nth a1 v37)))) = false) (D RBool x112))], [], [], []⟩::⟨[(41, D RBool (((api_Topic.Name (nth a0 v37)) != (api_Topic.Name (nth a1 v37))) || ((api_Topic.First (nth a0 v37)) != (api_Topic.First (nth a1 v37))))), (52, Ent.when ((((api_Topic.Name (nth a0 v37)) != (api_Topic.Name (nth a1 v37))) || ((api_Topic.First (nth a0 v37)) != (api_Topic.First (nth a1 v37)))) = false) (D RBool x112))], [(53, Ent.when ((((api_Topic.Name (nth a0 v37)) != (api_Topic.Name (nth a1 v37))) || ((api_Topic.First (nth a0 v37)) != (api_Topic.First (nth a1 v37)))) = false) (D RBool (!x112)))], [], [], []⟩::⟨[(41, D RBool (((api_Topic.Name (nth a0 v37)) != (api_Topic.Name (nth a1 v37))) || ((api_Topic.First (nth a0 v37)) != (api_Topic.First (nth a1 v37))))), (53, Ent.when ((((api_Topic.Name (nth a0 v37)) != (api_Topic.Name (nth a1 v37))) || ((api_Topic.First (nth a0 v37)) != (api_Topic.First (nth a1 v37)))) = false) (D RBool (!x112)))], [(54, D RBool ((((api_Topic.Name (nth a0 v37)) != (api_Topic.Name (nth a1 v37))) || ((api_Topic.First (nth a0 v37)) != (api_Topic.First (nth a1 v37)))) || (!x112)))], [], [], []⟩::[]) (al (fun _ _ h k f=>gu (qa (ot h.1)))<|al (fun _ _ h k f=>gu (qa (ot h.1)))<|al (fun _ _ h k f=>gu (qj (ot h.1) (ot h.2.1) u22 ty62 hb83))<|al (fun _ _ h k f=>gu (qx (ot h.1) (fp pl62) fo_api_Topic_0))<|al (fun _ _ h k f=>gu (qi (ot h.1) ty9))<|al (fun _ _ h k f=>gu (qa (ot h.1)))<|al (fun _ _ h k f=>gu (qa (ot h.1)))<|al (fun _ _ h k f=>gu (qj (ot h.1) (ot h.2.1) u22 ty62 hb84))<|al (fun _ _ h k f=>gu (qx (ot h.1) (fp pl62) fo_api_Topic_0))<|al (fun _ _ h k f=>gu (qi (ot h.1) ty9))<|al (fun _ _ h k f=>gu (qQ (ot h.1) (ot h.2.1)))<|al (fun _ _ h k f=>gu (qa (ot h.1)))<|al (fun _ _ h k f=>gg h.1 fun hg85=>qa (ot h.2.1))<|al (fun _ _ h k f=>gg h.1 fun hg86=>qa (ot h.2.1))<|al (fun _ _ h k f=>gg h.1 fun hg87=>qj (ow hg87 h.2.1) (ow hg87 h.2.2.1) u22 ty62 (hb88 hg87))<|al (fun _ _ h k f=>gg h.1 fun hg89=>qx (ow hg89 h.2.1) (fp pl62) fo_api_Topic_1)<|al (fun _ _ h k f=>gg h.1 fun hg90=>qi (ow hg90 h.2.1) ty3)<|al (fun _ _ h k f=>gg h.1 fun hg91=>qa (ot h.2.1))<|al (fun _ _ h k f=>gg h.1 fun hg92=>qa (ot h.2.1))<|al (fun _ _ h k f=>gg h.1 fun hg93=>qj (ow hg93 h.2.1) (ow hg93 h.2.2.1) u22 ty62 (hb94 hg93))<|al (fun _ _ h k f=>gg h.1 fun hg95=>qx (ow hg95 h.2.1) (fp pl62) fo_api_Topic_1)<|al (fun _ _ h k f=>gg h.1 fun hg96=>qi (ow hg96 h.2.1) ty3)<|al (fun _ _ h k f=>gg h.1 fun hg97=>qw (ow hg97 h.2.1) (ow hg97 h.2.2.1))<|al (fun _ _ h k f=>gu (qm (ot h.1) (fun hk98 => ow hk98 h.2.1)))<|al (fun _ _ h k f=>gu (qa (ot h.1)))<|al (fun _ _ h k f=>gg h.1 fun hg99=>qa (ot h.2.1))<|al (fun _ _ h k f=>gg h.1 fun hg100=>qa (ot h.2.1))<|al (fun _ _ h k f=>gg h.1 fun hg101=>qj (ow hg101 h.2.1) (ow hg101 h.2.2.1) u22 ty62 (hb102 hg101))<|al (fun _ _ h k f=>gg h.1 fun hg103=>qx (ow hg103 h.2.1) (fp pl62) fo_api_Topic_2)<|al (fun _ _ h k f=>gg h.1 fun hg104=>qi (ow hg104 h.2.1) ty40)<|al (fun _ _ h k f=>gg h.1 fun hg105=>qa (ot h.2.1))<|al (fun _ _ h k f=>gg h.1 fun hg106=>qa (ot h.2.1))<|al (fun _ _ h k f=>gg h.1 fun hg107=>qj (ow hg107 h.2.1) (ow hg107 h.2.2.1) u22 ty62 (hb108 hg107))<|al (fun _ _ h k f=>gg h.1 fun hg109=>qx (ow hg109 h.2.1) (fp pl62) fo_api_Topic_2)<|al (fun _ _ h k f=>gg h.1 fun hg110=>qi (ow hg110 h.2.1) ty40)<|al (fun _ _ h k f=>gg h.1 fun hg111=>qe oF (trystref02_Same_con (api_Topic.Log (nth a0 v37)) (api_Topic.Log (nth a1 v37)) _ (of_pos hg111 hx113)) call97 (zc (zo (ow hg111 h.2.1)) (zc (zo (ow hg111 h.2.2.1)) zn)))<|al (fun _ _ h k f=>gg h.1 fun hg114=>qr (ow hg114 h.2.1))<|al (fun _ _ h k f=>gu (qm (ot h.1) (fun hk115 => ow hk115 h.2.1)))<|an)<|jv [0,1,5,54] [] ?_
    refine nt<|cn ot hs76 (fun hc116 hs76=>?_) fun hc116 hs76=>?_
    ·cases hs76
     cases (hE78 _ rfl)
     cases hm
     exact sr<|js (qb oB)<|nt<|ct<|br<|tr<|tr<|br<|tr<|tr<|JE.retA rfl (RvOK.tmp rfl)
    ·cases hs76
     exact ck<|bn<|tn<|cr<|js (qa ot)<|js (qk ot oi)<|js (qb ot)<|jn<|mt (hB77 _ rfl)
   ·cases hs76
    cases (hE78 _ rfl)
    exact cx<|tx<|tx<|bx<|mt (hK74 _ rfl)
theorem trystref13_Same_con (a0 a1 r) (hm : trystref13_Same a0 a1 = some r) : PC 45 [D (RSlice R_api_Last) a0,D (RSlice R_api_Last) a1] (D RBool r) := by
 refine PI func45 fun w O=>?_
 unfold trystref13_Same at hm
 refine sr<|js (qb oB)<|nt<|cs<|sr<|js (qa ot)<|js (qf ot u23)<|js (qa ot)<|js (qf ot u23)<|js (qw ot ot)<|nt<|cn ot hm (fun hc1 hm=>?_) fun hc1 hm=>?_
 ·cases hm
  exact sr<|js (qb oB)<|nt<|ct<|tr<|JE.retA rfl (RvOK.tmp rfl)
 ·obtain ⟨e13,hl11,hm⟩ :=ob hm
  refine ck<|tn<|cs<|sr<|js (qb oi)<|nt<|JC.joinS e13 (fun s19=>[]) (fun s19=>[]) (fun s19 he=>?_) (fun _ hK12=>?_)
  ·cases he
   try dsimp only at hm
   cases hm
   exact tn<|sr<|js (qb oB)<|nt<|ct<|JE.retA rfl (RvOK.tmp rfl)
  ·refine cb<|JC.loop _ (fun s18=>[(0, D (RSlice R_api_Last) a0), (1, D (RSlice R_api_Last) a1), (5, D (RInt .i64) s18)]) (fun s18=>[]) _ ?_ _ hl11 ml
   intro v6 r17 _ hs14 hB15 hE16
   try dsimp only at hs14
   refine cs<|sr<|js (qa ot)<|js (qa ot)<|js (qf ot u23)<|js (qh ot ot)<|nt<|cn ot hs14 (fun hc20 hs14=>?_) fun hc20 hs14=>?_
   ·obtain ⟨hb21,hs14⟩ :=og hs14
    obtain ⟨hb22,hs14⟩ :=og hs14
    refine ck<|tn<|cs<|cb<|cs<|cd [17,18,19,20,21,22,23,24,25] mixed [⟨[(0, D (RSlice R_api_Last) a0)], [(17, D (RSlice R_api_Last) a0)], [], [], []⟩,⟨[(5, D (RInt .i64) v6)], [(18, D (RInt .i64) v6)], [], [], []⟩,⟨[(17, D (RSlice R_api_Last) a0), (18, D (RInt .i64) v6)], [(19, D (RPtr R_api_Last) (nth a0 v6))], [], [], []⟩,⟨[(19, D (RPtr R_api_Last) (nth a0 v6))], [(20, D R_api_Last (nth a0 v6))], [], [], []⟩,⟨[(1, D (RSlice R_api_Last) a1)], [(21, D (RSlice R_api_Last) a1)], [], [], []⟩,⟨[(5, D (RInt .i64) v6)], [(22, D (RInt .i64) v6)], [], [], []⟩,⟨[(21, D (RSlice R_api_Last) a1), (22, D (RInt .i64) v6)], [(23, D (RPtr R_api_Last) (nth a1 v6))], [], [], []⟩,⟨[(23, D (RPtr R_api_Last) (nth a1 v6))], [(24, D R_api_Last (nth a1 v6))], [], [], []⟩,⟨[(20, D R_api_Last (nth a0 v6)), (24, D R_api_Last (nth a1 v6))], [(25, D RBool (!decide ((nth a0 v6) = (nth a1 v6))))], [], [], []⟩] (al (fun _ _ h k f=>gu (qa (ot h.1)))<|al (fun _ _ h k f=>gu (qa (ot h.1)))<|al (fun _ _ h k f=>gu (qj (ot h.1) (ot h.2.1) u23 ty102 hb21))<|al (fun _ _ h k f=>gu (qi (ot h.1) ty102))<|al (fun _ _ h k f=>gu (qa (ot h.1)))<|al (fun _ _ h k f=>gu (qa (ot h.1)))<|al (fun _ _ h k f=>gu (qj (ot h.1) (ot h.2.1) u23 ty102 hb22))<|al (fun _ _ h k f=>gu (qi (ot h.1) ty102))<|al (fun _ _ h k f=>gu (qS (ot h.1) (ot h.2.1) eq102))<|an)<|jv [0,1,5,25] [] ?_
    refine nt<|cn ot hs14 (fun hc23 hs14=>?_) fun hc23 hs14=>?_
    ·cases hs14
     cases (hE16 _ rfl)
     cases hm
     exact sr<|js (qb oB)<|nt<|ct<|br<|tr<|tr<|br<|tr<|tr<|JE.retA rfl (RvOK.tmp rfl)
    ·cases hs14
     exact ck<|bn<|tn<|cr<|js (qa ot)<|js (qk ot oi)<|js (qb ot)<|jn<|mt (hB15 _ rfl)
   ·cases hs14
    cases (hE16 _ rfl)
    exact cx<|tx<|tx<|bx<|mt (hK12 _ rfl)
theorem trystref11_Ids_con (a0 a1 r) (hm : trystref11_Ids a0 a1 = some r) : PC 145 [D (RSlice (RInt .u64)) a0,D (RSlice (RInt .u64)) a1] (D RBool r) := by
 refine PI func145 fun w O=>?_
 unfold trystref11_Ids at hm
 refine sr<|js (qb oB)<|nt<|cs<|sr<|js (qa ot)<|js (qf ot u86)<|js (qa ot)<|js (qf ot u86)<|js (qw ot ot)<|nt<|cn ot hm (fun hc1 hm=>?_) fun hc1 hm=>?_
 ·cases hm
  exact sr<|js (qb oB)<|nt<|ct<|tr<|JE.retA rfl (RvOK.tmp rfl)
 ·obtain ⟨e13,hl11,hm⟩ :=ob hm
  refine ck<|tn<|cs<|sr<|js (qb oi)<|nt<|JC.joinS e13 (fun s19=>[]) (fun s19=>[]) (fun s19 he=>?_) (fun _ hK12=>?_)
  ·cases he
   try dsimp only at hm
   cases hm
   exact tn<|sr<|js (qb oB)<|nt<|ct<|JE.retA rfl (RvOK.tmp rfl)
  ·refine cb<|JC.loop _ (fun s18=>[(0, D (RSlice (RInt .u64)) a0), (1, D (RSlice (RInt .u64)) a1), (5, D (RInt .i64) s18)]) (fun s18=>[]) _ ?_ _ hl11 ml
   intro v6 r17 _ hs14 hB15 hE16
   try dsimp only at hs14
   refine cs<|sr<|js (qa ot)<|js (qa ot)<|js (qf ot u86)<|js (qh ot ot)<|nt<|cn ot hs14 (fun hc20 hs14=>?_) fun hc20 hs14=>?_
   ·obtain ⟨hb21,hs14⟩ :=og hs14
    obtain ⟨hb22,hs14⟩ :=og hs14
    refine ck<|tn<|cs<|cb<|cs<|cd [17,18,19,20,21,22,23,24,25] mixed [⟨[(0, D (RSlice (RInt .u64)) a0)], [(17, D (RSlice (RInt .u64)) a0)], [], [], []⟩,⟨[(5, D (RInt .i64) v6)], [(18, D (RInt .i64) v6)], [], [], []⟩,⟨[(17, D (RSlice (RInt .u64)) a0), (18, D (RInt .i64) v6)], [(19, D (RPtr (RInt .u64)) (nth a0 v6))], [], [], []⟩,⟨[(19, D (RPtr (RInt .u64)) (nth a0 v6))], [(20, D (RInt .u64) (nth a0 v6))], [], [], []⟩,⟨[(1, D (RSlice (RInt .u64)) a1)], [(21, D (RSlice (RInt .u64)) a1)], [], [], []⟩,⟨[(5, D (RInt .i64) v6)], [(22, D (RInt .i64) v6)], [], [], []⟩,⟨[(21, D (RSlice (RInt .u64)) a1), (22, D (RInt .i64) v6)], [(23, D (RPtr (RInt .u64)) (nth a1 v6))], [], [], []⟩,⟨[(23, D (RPtr (RInt .u64)) (nth a1 v6))], [(24, D (RInt .u64) (nth a1 v6))], [], [], []⟩,⟨[(20, D (RInt .u64) (nth a0 v6)), (24, D (RInt .u64) (nth a1 v6))], [(25, D RBool ((nth a0 v6) != (nth a1 v6)))], [], [], []⟩] (al (fun _ _ h k f=>gu (qa (ot h.1)))<|al (fun _ _ h k f=>gu (qa (ot h.1)))<|al (fun _ _ h k f=>gu (qj (ot h.1) (ot h.2.1) u86 ty46 hb21))<|al (fun _ _ h k f=>gu (qi (ot h.1) ty46))<|al (fun _ _ h k f=>gu (qa (ot h.1)))<|al (fun _ _ h k f=>gu (qa (ot h.1)))<|al (fun _ _ h k f=>gu (qj (ot h.1) (ot h.2.1) u86 ty46 hb22))<|al (fun _ _ h k f=>gu (qi (ot h.1) ty46))<|al (fun _ _ h k f=>gu (qw (ot h.1) (ot h.2.1)))<|an)<|jv [0,1,5,25] [] ?_
    refine nt<|cn ot hs14 (fun hc23 hs14=>?_) fun hc23 hs14=>?_
    ·cases hs14
     cases (hE16 _ rfl)
     cases hm
     exact sr<|js (qb oB)<|nt<|ct<|br<|tr<|tr<|br<|tr<|tr<|JE.retA rfl (RvOK.tmp rfl)
    ·cases hs14
     exact ck<|bn<|tn<|cr<|js (qa ot)<|js (qk ot oi)<|js (qb ot)<|jn<|mt (hB15 _ rfl)
   ·cases hs14
    cases (hE16 _ rfl)
    exact cx<|tx<|tx<|bx<|mt (hK12 _ rfl)
theorem trystref15_SameOne_con (a0 a1 r) (hm : trystref15_SameOne a0 a1 = some r) : PC 98 [D R_api_Out a0,D R_api_Out a1] (D RBool r) := by
 refine PI func98 fun w O=>?_
 unfold trystref15_SameOne at hm
 obtain ⟨x24,hx25,hm⟩ :=ob hm
 cases hm
 exact sr<|js (qq (i:=1) ot)<|js (qq (i:=2) ot)<|js (qb oB)<|nt<|sr<|js (qc ot (fp pl88))<|js (qd ot fo_api_Out_0 ty46)<|js (qc ot (fp pl88))<|js (qd ot fo_api_Out_0 ty46)<|js (qy ot ot)<|js (qa ot)<|jg (fun hg1=>qc ot (fp pl88))<|jg (fun hg2=>qd (ow hg2) fo_api_Out_1 ty9)<|jg (fun hg3=>qc ot (fp pl88))<|jg (fun hg4=>qd (ow hg4) fo_api_Out_1 ty9)<|jg (fun hg5=>qz (ow hg5) (ow hg5))<|js (ql ot (fun hk6 => ow hk6))<|js (qa ot)<|jg (fun hg7=>qc ot (fp pl88))<|jg (fun hg8=>qd (ow hg8) fo_api_Out_3 ty3)<|jg (fun hg9=>qc ot (fp pl88))<|jg (fun hg10=>qd (ow hg10) fo_api_Out_3 ty3)<|jg (fun hg11=>qy (ow hg11) (ow hg11))<|js (ql ot (fun hk12 => ow hk12))<|js (qa ot)<|jg (fun hg13=>qc ot (fp pl88))<|jg (fun hg14=>qd (ow hg14) fo_api_Out_4 ty3)<|jg (fun hg15=>qc ot (fp pl88))<|jg (fun hg16=>qd (ow hg16) fo_api_Out_4 ty3)<|jg (fun hg17=>qy (ow hg17) (ow hg17))<|js (ql ot (fun hk18 => ow hk18))<|js (qa ot)<|jg (fun hg19=>qc ot (fp pl88))<|jg (fun hg20=>qd (ow hg20) fo_api_Out_2 ty86)<|jg (fun hg21=>qc ot (fp pl88))<|jg (fun hg22=>qd (ow hg22) fo_api_Out_2 ty86)<|jg (fun hg23=>qe oF (trystref11_Ids_con (api_Out.Ids a0) (api_Out.Ids a1) _ (of_pos hg23 hx25)) call145 (zc (zo (ow hg23)) (zc (zo (ow hg23)) zn)))<|js (ql ot (fun hk26 => ow hk26))<|js (qb ot)<|nt<|ct<|JE.retA rfl (RvOK.tmp rfl)
theorem trystref15_Same_con (a0 a1 r) (hm : trystref15_Same a0 a1 = some r) : PC 46 [D (RSlice R_api_Out) a0,D (RSlice R_api_Out) a1] (D RBool r) := by
 refine PI func46 fun w O=>?_
 unfold trystref15_Same at hm
 refine sr<|js (qb oB)<|nt<|cs<|sr<|js (qa ot)<|js (qf ot u25)<|js (qa ot)<|js (qf ot u25)<|js (qw ot ot)<|nt<|cn ot hm (fun hc1 hm=>?_) fun hc1 hm=>?_
 ·cases hm
  exact sr<|js (qb oB)<|nt<|ct<|tr<|JE.retA rfl (RvOK.tmp rfl)
 ·obtain ⟨e17,hl15,hm⟩ :=ob hm
  refine ck<|tn<|cs<|sr<|js (qb oi)<|nt<|JC.joinS e17 (fun s23=>[]) (fun s23=>[]) (fun s23 he=>?_) (fun _ hK16=>?_)
  ·cases he
   try dsimp only at hm
   cases hm
   exact tn<|sr<|js (qb oB)<|nt<|ct<|JE.retA rfl (RvOK.tmp rfl)
  ·refine cb<|JC.loop _ (fun s22=>[(0, D (RSlice R_api_Out) a0), (1, D (RSlice R_api_Out) a1), (5, D (RInt .i64) s22)]) (fun s22=>[]) _ ?_ _ hl15 ml
   intro v8 r21 _ hs18 hB19 hE20
   try dsimp only at hs18
   refine cs<|sr<|js (qa ot)<|js (qa ot)<|js (qf ot u25)<|js (qh ot ot)<|nt<|cn ot hs18 (fun hc24 hs18=>?_) fun hc24 hs18=>?_
   ·obtain ⟨hb25,hs18⟩ :=og hs18
    obtain ⟨hb26,hs18⟩ :=og hs18
    obtain ⟨x27,hx28,hs18⟩ :=ob hs18
    refine ck<|tn<|cs<|cb<|cs<|cd [17,18,19,20,21,22,23,24,25,26] mixed [⟨[(0, D (RSlice R_api_Out) a0)], [(17, D (RSlice R_api_Out) a0)], [], [], []⟩,⟨[(5, D (RInt .i64) v8)], [(18, D (RInt .i64) v8)], [], [], []⟩,⟨[(17, D (RSlice R_api_Out) a0), (18, D (RInt .i64) v8)], [(19, D (RPtr R_api_Out) (nth a0 v8))], [], [], []⟩,⟨[(19, D (RPtr R_api_Out) (nth a0 v8))], [(20, D R_api_Out (nth a0 v8))], [], [], []⟩,⟨[(1, D (RSlice R_api_Out) a1)], [(21, D (RSlice R_api_Out) a1)], [], [], []⟩,⟨[(5, D (RInt .i64) v8)], [(22, D (RInt .i64) v8)], [], [], []⟩,⟨[(21, D (RSlice R_api_Out) a1), (22, D (RInt .i64) v8)], [(23, D (RPtr R_api_Out) (nth a1 v8))], [], [], []⟩,⟨[(23, D (RPtr R_api_Out) (nth a1 v8))], [(24, D R_api_Out (nth a1 v8))], [], [], []⟩,⟨[(20, D R_api_Out (nth a0 v8)), (24, D R_api_Out (nth a1 v8))], [(25, D RBool x27)], [], [], []⟩,⟨[(25, D RBool x27)], [(26, D RBool (!x27))], [], [], []⟩] (al (fun _ _ h k f=>gu (qa (ot h.1)))<|al (fun _ _ h k f=>gu (qa (ot h.1)))<|al (fun _ _ h k f=>gu (qj (ot h.1) (ot h.2.1) u25 ty88 hb25))<|al (fun _ _ h k f=>gu (qi (ot h.1) ty88))<|al (fun _ _ h k f=>gu (qa (ot h.1)))<|al (fun _ _ h k f=>gu (qa (ot h.1)))<|al (fun _ _ h k f=>gu (qj (ot h.1) (ot h.2.1) u25 ty88 hb26))<|al (fun _ _ h k f=>gu (qi (ot h.1) ty88))<|al (fun _ _ h k f=>gu (qe oF (trystref15_SameOne_con (nth a0 v8) (nth a1 v8) _ hx28) call98 (zc (zo (ot h.1)) (zc (zo (ot h.2.1)) zn))))<|al (fun _ _ h k f=>gu (qr (ot h.1)))<|an)<|jv [0,1,5,26] [] ?_
    refine nt<|cn ot hs18 (fun hc29 hs18=>?_) fun hc29 hs18=>?_
    ·cases hs18
     cases (hE20 _ rfl)
     cases hm
     exact sr<|js (qb oB)<|nt<|ct<|br<|tr<|tr<|br<|tr<|tr<|JE.retA rfl (RvOK.tmp rfl)
    ·cases hs18
     exact ck<|bn<|tn<|cr<|js (qa ot)<|js (qk ot oi)<|js (qb ot)<|jn<|mt (hB19 _ rfl)
   ·cases hs18
    cases (hE20 _ rfl)
    exact cx<|tx<|tx<|bx<|mt (hK16 _ rfl)
theorem trystref05_Same_con : ∀ (n : Nat) (a0 : api_Pred) (a1 : api_Pred) (r : Bool) (hm : trystref05_Same n a0 a1 = some r), PCon Base prog 99 [D R_api_Pred a0, D R_api_Pred a1] (D RBool r) := by
 intro n
 induction n with
 | zero => intro a0 a1 r hm; rw [trystref05_Same.eq_1] at hm; cases hm
 | succ n ih =>
  intro a0 a1 r hm
  rw [trystref05_Same.eq_2] at hm
  refine PI func99 fun w O=>?_
  refine sr<|js (qq (i:=1) ot)<|js (qq (i:=2) ot)<|js (qb oB)<|nt<|cs<|sr<|js (qc ot (fp pl120))<|js (qd ot fo_api_Pred_0 ty9)<|js (qc ot (fp pl120))<|js (qd ot fo_api_Pred_0 ty9)<|js (qQ ot ot)<|js (qa ot)<|jg (fun hg1=>qc ot (fp pl120))<|jg (fun hg2=>qd (ow hg2) fo_api_Pred_1 ty9)<|jg (fun hg3=>qc ot (fp pl120))<|jg (fun hg4=>qd (ow hg4) fo_api_Pred_1 ty9)<|jg (fun hg5=>qQ (ow hg5) (ow hg5))<|js (qm ot (fun hk6 => ow hk6))<|js (qa ot)<|jg (fun hg7=>qc ot (fp pl120))<|jg (fun hg8=>qd (ow hg8) fo_api_Pred_2 ty118)<|jg (fun hg9=>qc ot (fp pl120))<|jg (fun hg10=>qd (ow hg10) fo_api_Pred_2 ty118)<|jg (fun hg11=>qS (ow hg11) (ow hg11) eq118)<|js (qm ot (fun hk12 => ow hk12))<|js (qa ot)<|jg (fun hg13=>qc ot (fp pl120))<|jg (fun hg14=>qd (ow hg14) fo_api_Pred_3 ty41)<|jg (fun hg15=>qf (ow hg15) u41)<|jg (fun hg16=>qc ot (fp pl120))<|jg (fun hg17=>qd (ow hg17) fo_api_Pred_3 ty41)<|jg (fun hg18=>qf (ow hg18) u41)<|jg (fun hg19=>qw (ow hg19) (ow hg19))<|js (qm ot (fun hk20 => ow hk20))<|nt<|cn ot hm (fun hc21 hm=>?_) fun hc21 hm=>?_
  ·cases hm
   exact sr<|js (qb oB)<|nt<|ct<|tr<|JE.retA rfl (RvOK.tmp rfl)
  ·obtain ⟨e37,hl35,hm⟩ :=ob hm
   refine ck<|tn<|cs<|sr<|js (qb oi)<|nt<|JC.joinS e37 (fun s43=>[]) (fun s43=>[]) (fun s43 he=>?_) (fun _ hK36=>?_)
   ·cases he
    try dsimp only at hm
    cases hm
    exact tn<|sr<|js (qb oB)<|nt<|ct<|JE.retA rfl (RvOK.tmp rfl)
   ·refine cb<|JC.loop _ (fun s42=>[(2, BP 1 0), (3, BP 2 0), (5, D (RInt .i64) s42)]) (fun s42=>[(1, Box R_api_Pred 120 a0), (2, Box R_api_Pred 120 a1)]) _ ?_ _ hl35 ml
    intro v28 r41 _ hs38 hB39 hE40
    try dsimp only at hs38
    refine cs<|sr<|js (qa ot)<|js (qc ot (fp pl120))<|js (qd ot fo_api_Pred_3 ty41)<|js (qf ot u41)<|js (qh ot ot)<|nt<|cn ot hs38 (fun hc44 hs38=>?_) fun hc44 hs38=>?_
    ·obtain ⟨hb45,hs38⟩ :=og hs38
     obtain ⟨hb46,hs38⟩ :=og hs38
     obtain ⟨x47,hx48,hs38⟩ :=ob hs38
     refine ck<|tn<|cs<|cb<|cs<|cd [41,42,43,44,45,46,47,48,49,50,51,52] mixed [⟨[(2, BP 1 0)], [(41, BP 1 5)], [], [], []⟩,⟨[(41, BP 1 5)], [(42, D (RSlice R_api_Pred) (PT.L a0))], [(1, Box R_api_Pred 120 a0)], [], []⟩,⟨[(5, D (RInt .i64) v28)], [(43, D (RInt .i64) v28)], [], [], []⟩,⟨[(42, D (RSlice R_api_Pred) (PT.L a0)), (43, D (RInt .i64) v28)], [(44, D (RPtr R_api_Pred) (nth (PT.L a0) v28))], [], [], []⟩,⟨[(44, D (RPtr R_api_Pred) (nth (PT.L a0) v28))], [(45, D R_api_Pred (nth (PT.L a0) v28))], [], [], []⟩,⟨[(3, BP 2 0)], [(46, BP 2 5)], [], [], []⟩,⟨[(46, BP 2 5)], [(47, D (RSlice R_api_Pred) (PT.L a1))], [(2, Box R_api_Pred 120 a1)], [], []⟩,⟨[(5, D (RInt .i64) v28)], [(48, D (RInt .i64) v28)], [], [], []⟩,⟨[(47, D (RSlice R_api_Pred) (PT.L a1)), (48, D (RInt .i64) v28)], [(49, D (RPtr R_api_Pred) (nth (PT.L a1) v28))], [], [], []⟩,⟨[(49, D (RPtr R_api_Pred) (nth (PT.L a1) v28))], [(50, D R_api_Pred (nth (PT.L a1) v28))], [], [], []⟩,⟨[(45, D R_api_Pred (nth (PT.L a0) v28)), (50, D R_api_Pred (nth (PT.L a1) v28))], [(51, D RBool x47)], [], [], []⟩,⟨[(51, D RBool x47)], [(52, D RBool (!x47))], [], [], []⟩] (al (fun _ _ h k f=>gu (qc (off:=5) (ot h.1) (fp pl120)))<|al (fun _ _ h k f=>gu (qd (get:=fun d => PT.L d) (ot h.1) fo_api_Pred_3 ty41 (hi:=k.1)))<|al (fun _ _ h k f=>gu (qa (ot h.1)))<|al (fun _ _ h k f=>gu (qj (ot h.1) (ot h.2.1) u41 ty120 hb45))<|al (fun _ _ h k f=>gu (qi (ot h.1) ty120))<|al (fun _ _ h k f=>gu (qc (off:=5) (ot h.1) (fp pl120)))<|al (fun _ _ h k f=>gu (qd (get:=fun d => PT.L d) (ot h.1) fo_api_Pred_3 ty41 (hi:=k.1)))<|al (fun _ _ h k f=>gu (qa (ot h.1)))<|al (fun _ _ h k f=>gu (qj (ot h.1) (ot h.2.1) u41 ty120 hb46))<|al (fun _ _ h k f=>gu (qi (ot h.1) ty120))<|al (fun _ _ h k f=>gu (qe oF (ih (nth (PT.L a0) v28) (nth (PT.L a1) v28) _ hx48) call99 (zc (zo (ot h.1)) (zc (zo (ot h.2.1)) zn))))<|al (fun _ _ h k f=>gu (qr (ot h.1)))<|an)<|jv [2,3,5,52] [1,2] ?_
     refine nt<|cn ot hs38 (fun hc49 hs38=>?_) fun hc49 hs38=>?_
     ·cases hs38
      cases (hE40 _ rfl)
      cases hm
      exact sr<|js (qb oB)<|nt<|ct<|br<|tr<|tr<|br<|tr<|tr<|JE.retA rfl (RvOK.tmp rfl)
     ·cases hs38
      exact ck<|bn<|tn<|cr<|js (qa ot)<|js (qk ot oi)<|js (qb ot)<|jn<|mt (hB39 _ rfl)
    ·cases hs38
     cases (hE40 _ rfl)
     exact cx<|tx<|tx<|bx<|mt (hK36 _ rfl)
theorem trystref14_Same_con (a0 a1 r) (hm : trystref14_Same a0 a1 = some r) : PC 47 [D R_api_Def a0,D R_api_Def a1] (D RBool r) := by
 refine PI func47 fun w O=>?_
 unfold trystref14_Same at hm
 obtain ⟨x18,hx19,hm⟩ :=ob hm
 refine sr<|js (qq (i:=1) ot)<|js (qq (i:=2) ot)<|js (qb oB)<|nt<|cs<|sr<|js (qc ot (fp pl45))<|js (qd ot fo_api_Def_0 ty9)<|js (qc ot (fp pl45))<|js (qd ot fo_api_Def_0 ty9)<|js (qQ ot ot)<|js (qa ot)<|jg (fun hg1=>qc ot (fp pl45))<|jg (fun hg2=>qd (ow hg2) fo_api_Def_3 ty9)<|jg (fun hg3=>qc ot (fp pl45))<|jg (fun hg4=>qd (ow hg4) fo_api_Def_3 ty9)<|jg (fun hg5=>qQ (ow hg5) (ow hg5))<|js (qm ot (fun hk6 => ow hk6))<|js (qa ot)<|jg (fun hg7=>qc ot (fp pl45))<|jg (fun hg8=>qd (ow hg8) fo_api_Def_4 ty43)<|jg (fun hg9=>qc ot (fp pl45))<|jg (fun hg10=>qd (ow hg10) fo_api_Def_4 ty43)<|jg (fun hg11=>qS (ow hg11) (ow hg11) eq43)<|js (qm ot (fun hk12 => ow hk12))<|js (qa ot)<|jg (fun hg13=>qc ot (fp pl45))<|jg (fun hg14=>qd (ow hg14) fo_api_Def_1 ty40)<|jg (fun hg15=>qc ot (fp pl45))<|jg (fun hg16=>qd (ow hg16) fo_api_Def_1 ty40)<|jg (fun hg17=>qe oF (trystref02_Same_con (api_Def.Globs a0) (api_Def.Globs a1) _ (of_pos hg17 hx19)) call97 (zc (zo (ow hg17)) (zc (zo (ow hg17)) zn)))<|jg (fun hg20=>qr (ow hg20))<|js (qm ot (fun hk21 => ow hk21))<|js (qa ot)<|jg (fun hg22=>qc ot (fp pl45))<|jg (fun hg23=>qd (ow hg23) fo_api_Def_2 ty41)<|jg (fun hg24=>qf (ow hg24) u41)<|jg (fun hg25=>qc ot (fp pl45))<|jg (fun hg26=>qd (ow hg26) fo_api_Def_2 ty41)<|jg (fun hg27=>qf (ow hg27) u41)<|jg (fun hg28=>qw (ow hg28) (ow hg28))<|js (qm ot (fun hk29 => ow hk29))<|nt<|cn ot hm (fun hc30 hm=>?_) fun hc30 hm=>?_
 ·cases hm
  exact sr<|js (qb oB)<|nt<|ct<|tr<|JE.retA rfl (RvOK.tmp rfl)
 ·obtain ⟨e46,hl44,hm⟩ :=ob hm
  refine ck<|tn<|cs<|sr<|js (qb oi)<|nt<|JC.joinS e46 (fun s52=>[]) (fun s52=>[]) (fun s52 he=>?_) (fun _ hK45=>?_)
  ·cases he
   try dsimp only at hm
   cases hm
   exact tn<|sr<|js (qb oB)<|nt<|ct<|JE.retA rfl (RvOK.tmp rfl)
  ·refine cb<|JC.loop _ (fun s51=>[(2, BP 1 0), (3, BP 2 0), (5, D (RInt .i64) s51)]) (fun s51=>[(1, Box R_api_Def 45 a0), (2, Box R_api_Def 45 a1)]) _ ?_ _ hl44 ml
   intro v37 r50 _ hs47 hB48 hE49
   try dsimp only at hs47
   refine cs<|sr<|js (qa ot)<|js (qc ot (fp pl45))<|js (qd ot fo_api_Def_2 ty41)<|js (qf ot u41)<|js (qh ot ot)<|nt<|cn ot hs47 (fun hc53 hs47=>?_) fun hc53 hs47=>?_
   ·obtain ⟨hb54,hs47⟩ :=og hs47
    obtain ⟨hb55,hs47⟩ :=og hs47
    obtain ⟨x56,hx57,hs47⟩ :=ob hs47
    refine ck<|tn<|cs<|cb<|cs<|cd [49,50,51,52,53,54,55,56,57,58,59,60] mixed [⟨[(2, BP 1 0)], [(49, BP 1 2)], [], [], []⟩,⟨[(49, BP 1 2)], [(50, D (RSlice R_api_Pred) (api_Def.Where a0))], [(1, Box R_api_Def 45 a0)], [], []⟩,⟨[(5, D (RInt .i64) v37)], [(51, D (RInt .i64) v37)], [], [], []⟩,⟨[(50, D (RSlice R_api_Pred) (api_Def.Where a0)), (51, D (RInt .i64) v37)], [(52, D (RPtr R_api_Pred) (nth (api_Def.Where a0) v37))], [], [], []⟩,⟨[(52, D (RPtr R_api_Pred) (nth (api_Def.Where a0) v37))], [(53, D R_api_Pred (nth (api_Def.Where a0) v37))], [], [], []⟩,⟨[(3, BP 2 0)], [(54, BP 2 2)], [], [], []⟩,⟨[(54, BP 2 2)], [(55, D (RSlice R_api_Pred) (api_Def.Where a1))], [(2, Box R_api_Def 45 a1)], [], []⟩,⟨[(5, D (RInt .i64) v37)], [(56, D (RInt .i64) v37)], [], [], []⟩,⟨[(55, D (RSlice R_api_Pred) (api_Def.Where a1)), (56, D (RInt .i64) v37)], [(57, D (RPtr R_api_Pred) (nth (api_Def.Where a1) v37))], [], [], []⟩,⟨[(57, D (RPtr R_api_Pred) (nth (api_Def.Where a1) v37))], [(58, D R_api_Pred (nth (api_Def.Where a1) v37))], [], [], []⟩,⟨[(53, D R_api_Pred (nth (api_Def.Where a0) v37)), (58, D R_api_Pred (nth (api_Def.Where a1) v37))], [(59, D RBool x56)], [], [], []⟩,⟨[(59, D RBool x56)], [(60, D RBool (!x56))], [], [], []⟩] (al (fun _ _ h k f=>gu (qc (off:=2) (ot h.1) (fp pl45)))<|al (fun _ _ h k f=>gu (qd (get:=fun d => api_Def.Where d) (ot h.1) fo_api_Def_2 ty41 (hi:=k.1)))<|al (fun _ _ h k f=>gu (qa (ot h.1)))<|al (fun _ _ h k f=>gu (qj (ot h.1) (ot h.2.1) u41 ty120 hb54))<|al (fun _ _ h k f=>gu (qi (ot h.1) ty120))<|al (fun _ _ h k f=>gu (qc (off:=2) (ot h.1) (fp pl45)))<|al (fun _ _ h k f=>gu (qd (get:=fun d => api_Def.Where d) (ot h.1) fo_api_Def_2 ty41 (hi:=k.1)))<|al (fun _ _ h k f=>gu (qa (ot h.1)))<|al (fun _ _ h k f=>gu (qj (ot h.1) (ot h.2.1) u41 ty120 hb55))<|al (fun _ _ h k f=>gu (qi (ot h.1) ty120))<|al (fun _ _ h k f=>gu (qe oF (trystref05_Same_con FUEL (nth (api_Def.Where a0) v37) (nth (api_Def.Where a1) v37) _ hx57) call99 (zc (zo (ot h.1)) (zc (zo (ot h.2.1)) zn))))<|al (fun _ _ h k f=>gu (qr (ot h.1)))<|an)<|jv [2,3,5,60] [1,2] ?_
    refine nt<|cn ot hs47 (fun hc58 hs47=>?_) fun hc58 hs47=>?_
    ·cases hs47
     cases (hE49 _ rfl)
     cases hm
     exact sr<|js (qb oB)<|nt<|ct<|br<|tr<|tr<|br<|tr<|tr<|JE.retA rfl (RvOK.tmp rfl)
    ·cases hs47
     exact ck<|bn<|tn<|cr<|js (qa ot)<|js (qk ot oi)<|js (qb ot)<|jn<|mt (hB48 _ rfl)
   ·cases hs47
    cases (hE49 _ rfl)
    exact cx<|tx<|tx<|bx<|mt (hK45 _ rfl)
theorem trystref14_SameOffs_con (a0 a1 r) (hm : trystref14_SameOffs a0 a1 = some r) : PC 48 [D (RSlice R_api_Off) a0,D (RSlice R_api_Off) a1] (D RBool r) := by
 refine PI func48 fun w O=>?_
 unfold trystref14_SameOffs at hm
 refine sr<|js (qb oB)<|nt<|cs<|sr<|js (qa ot)<|js (qf ot u63)<|js (qa ot)<|js (qf ot u63)<|js (qw ot ot)<|nt<|cn ot hm (fun hc1 hm=>?_) fun hc1 hm=>?_
 ·cases hm
  exact sr<|js (qb oB)<|nt<|ct<|tr<|JE.retA rfl (RvOK.tmp rfl)
 ·obtain ⟨e13,hl11,hm⟩ :=ob hm
  refine ck<|tn<|cs<|sr<|js (qb oi)<|nt<|JC.joinS e13 (fun s19=>[]) (fun s19=>[]) (fun s19 he=>?_) (fun _ hK12=>?_)
  ·cases he
   try dsimp only at hm
   cases hm
   exact tn<|sr<|js (qb oB)<|nt<|ct<|JE.retA rfl (RvOK.tmp rfl)
  ·refine cb<|JC.loop _ (fun s18=>[(0, D (RSlice R_api_Off) a0), (1, D (RSlice R_api_Off) a1), (5, D (RInt .i64) s18)]) (fun s18=>[]) _ ?_ _ hl11 ml
   intro v6 r17 _ hs14 hB15 hE16
   try dsimp only at hs14
   refine cs<|sr<|js (qa ot)<|js (qa ot)<|js (qf ot u63)<|js (qh ot ot)<|nt<|cn ot hs14 (fun hc20 hs14=>?_) fun hc20 hs14=>?_
   ·obtain ⟨hb21,hs14⟩ :=og hs14
    obtain ⟨hb22,hs14⟩ :=og hs14
    refine ck<|tn<|cs<|cb<|cs<|cd [17,18,19,20,21,22,23,24,25] mixed [⟨[(0, D (RSlice R_api_Off) a0)], [(17, D (RSlice R_api_Off) a0)], [], [], []⟩,⟨[(5, D (RInt .i64) v6)], [(18, D (RInt .i64) v6)], [], [], []⟩,⟨[(17, D (RSlice R_api_Off) a0), (18, D (RInt .i64) v6)], [(19, D (RPtr R_api_Off) (nth a0 v6))], [], [], []⟩,⟨[(19, D (RPtr R_api_Off) (nth a0 v6))], [(20, D R_api_Off (nth a0 v6))], [], [], []⟩,⟨[(1, D (RSlice R_api_Off) a1)], [(21, D (RSlice R_api_Off) a1)], [], [], []⟩,⟨[(5, D (RInt .i64) v6)], [(22, D (RInt .i64) v6)], [], [], []⟩,⟨[(21, D (RSlice R_api_Off) a1), (22, D (RInt .i64) v6)], [(23, D (RPtr R_api_Off) (nth a1 v6))], [], [], []⟩,⟨[(23, D (RPtr R_api_Off) (nth a1 v6))], [(24, D R_api_Off (nth a1 v6))], [], [], []⟩,⟨[(20, D R_api_Off (nth a0 v6)), (24, D R_api_Off (nth a1 v6))], [(25, D RBool (!decide ((nth a0 v6) = (nth a1 v6))))], [], [], []⟩] (al (fun _ _ h k f=>gu (qa (ot h.1)))<|al (fun _ _ h k f=>gu (qa (ot h.1)))<|al (fun _ _ h k f=>gu (qj (ot h.1) (ot h.2.1) u63 ty123 hb21))<|al (fun _ _ h k f=>gu (qi (ot h.1) ty123))<|al (fun _ _ h k f=>gu (qa (ot h.1)))<|al (fun _ _ h k f=>gu (qa (ot h.1)))<|al (fun _ _ h k f=>gu (qj (ot h.1) (ot h.2.1) u63 ty123 hb22))<|al (fun _ _ h k f=>gu (qi (ot h.1) ty123))<|al (fun _ _ h k f=>gu (qS (ot h.1) (ot h.2.1) eq123))<|an)<|jv [0,1,5,25] [] ?_
    refine nt<|cn ot hs14 (fun hc23 hs14=>?_) fun hc23 hs14=>?_
    ·cases hs14
     cases (hE16 _ rfl)
     cases hm
     exact sr<|js (qb oB)<|nt<|ct<|br<|tr<|tr<|br<|tr<|tr<|JE.retA rfl (RvOK.tmp rfl)
    ·cases hs14
     exact ck<|bn<|tn<|cr<|js (qa ot)<|js (qk ot oi)<|js (qb ot)<|jn<|mt (hB15 _ rfl)
   ·cases hs14
    cases (hE16 _ rfl)
    exact cx<|tx<|tx<|bx<|mt (hK12 _ rfl)
theorem trystref09_Same_con (a0 a1 r) (hm : trystref09_Same a0 a1 = some r) : PC 100 [D (RSlice R_api_Kept) a0,D (RSlice R_api_Kept) a1] (D RBool r) := by
 refine PI func100 fun w O=>?_
 unfold trystref09_Same at hm
 refine sr<|js (qb oB)<|nt<|cs<|sr<|js (qa ot)<|js (qf ot u125)<|js (qa ot)<|js (qf ot u125)<|js (qw ot ot)<|nt<|cn ot hm (fun hc1 hm=>?_) fun hc1 hm=>?_
 ·cases hm
  exact sr<|js (qb oB)<|nt<|ct<|tr<|JE.retA rfl (RvOK.tmp rfl)
 ·obtain ⟨e13,hl11,hm⟩ :=ob hm
  refine ck<|tn<|cs<|sr<|js (qb oi)<|nt<|JC.joinS e13 (fun s19=>[]) (fun s19=>[]) (fun s19 he=>?_) (fun _ hK12=>?_)
  ·cases he
   try dsimp only at hm
   cases hm
   exact tn<|sr<|js (qb oB)<|nt<|ct<|JE.retA rfl (RvOK.tmp rfl)
  ·refine cb<|JC.loop _ (fun s18=>[(0, D (RSlice R_api_Kept) a0), (1, D (RSlice R_api_Kept) a1), (5, D (RInt .i64) s18)]) (fun s18=>[]) _ ?_ _ hl11 ml
   intro v6 r17 _ hs14 hB15 hE16
   try dsimp only at hs14
   refine cs<|sr<|js (qa ot)<|js (qa ot)<|js (qf ot u125)<|js (qh ot ot)<|nt<|cn ot hs14 (fun hc20 hs14=>?_) fun hc20 hs14=>?_
   ·obtain ⟨hb21,hs14⟩ :=og hs14
    obtain ⟨hb22,hs14⟩ :=og hs14
    refine ck<|tn<|cs<|cb<|cs<|cd [17,18,19,20,21,22,23,24,25] mixed [⟨[(0, D (RSlice R_api_Kept) a0)], [(17, D (RSlice R_api_Kept) a0)], [], [], []⟩,⟨[(5, D (RInt .i64) v6)], [(18, D (RInt .i64) v6)], [], [], []⟩,⟨[(17, D (RSlice R_api_Kept) a0), (18, D (RInt .i64) v6)], [(19, D (RPtr R_api_Kept) (nth a0 v6))], [], [], []⟩,⟨[(19, D (RPtr R_api_Kept) (nth a0 v6))], [(20, D R_api_Kept (nth a0 v6))], [], [], []⟩,⟨[(1, D (RSlice R_api_Kept) a1)], [(21, D (RSlice R_api_Kept) a1)], [], [], []⟩,⟨[(5, D (RInt .i64) v6)], [(22, D (RInt .i64) v6)], [], [], []⟩,⟨[(21, D (RSlice R_api_Kept) a1), (22, D (RInt .i64) v6)], [(23, D (RPtr R_api_Kept) (nth a1 v6))], [], [], []⟩,⟨[(23, D (RPtr R_api_Kept) (nth a1 v6))], [(24, D R_api_Kept (nth a1 v6))], [], [], []⟩,⟨[(20, D R_api_Kept (nth a0 v6)), (24, D R_api_Kept (nth a1 v6))], [(25, D RBool (!decide ((nth a0 v6) = (nth a1 v6))))], [], [], []⟩] (al (fun _ _ h k f=>gu (qa (ot h.1)))<|al (fun _ _ h k f=>gu (qa (ot h.1)))<|al (fun _ _ h k f=>gu (qj (ot h.1) (ot h.2.1) u125 ty153 hb21))<|al (fun _ _ h k f=>gu (qi (ot h.1) ty153))<|al (fun _ _ h k f=>gu (qa (ot h.1)))<|al (fun _ _ h k f=>gu (qa (ot h.1)))<|al (fun _ _ h k f=>gu (qj (ot h.1) (ot h.2.1) u125 ty153 hb22))<|al (fun _ _ h k f=>gu (qi (ot h.1) ty153))<|al (fun _ _ h k f=>gu (qS (ot h.1) (ot h.2.1) eq153))<|an)<|jv [0,1,5,25] [] ?_
    refine nt<|cn ot hs14 (fun hc23 hs14=>?_) fun hc23 hs14=>?_
    ·cases hs14
     cases (hE16 _ rfl)
     cases hm
     exact sr<|js (qb oB)<|nt<|ct<|br<|tr<|tr<|br<|tr<|tr<|JE.retA rfl (RvOK.tmp rfl)
    ·cases hs14
     exact ck<|bn<|tn<|cr<|js (qa ot)<|js (qk ot oi)<|js (qb ot)<|jn<|mt (hB15 _ rfl)
   ·cases hs14
    cases (hE16 _ rfl)
    exact cx<|tx<|tx<|bx<|mt (hK12 _ rfl)
theorem trystref10_Same_con (a0 a1 r) (hm : trystref10_Same a0 a1 = some r) : PC 49 [D (RSlice R_api_Inst) a0,D (RSlice R_api_Inst) a1] (D RBool r) := by
 refine PI func49 fun w O=>?_
 unfold trystref10_Same at hm
 refine sr<|js (qb oB)<|nt<|cs<|sr<|js (qa ot)<|js (qf ot u64)<|js (qa ot)<|js (qf ot u64)<|js (qw ot ot)<|nt<|cn ot hm (fun hc1 hm=>?_) fun hc1 hm=>?_
 ·cases hm
  exact sr<|js (qb oB)<|nt<|ct<|tr<|JE.retA rfl (RvOK.tmp rfl)
 ·obtain ⟨e47,hl45,hm⟩ :=ob hm
  refine ck<|tn<|cs<|sr<|js (qb oi)<|nt<|JC.joinS e47 (fun s53=>[]) (fun s53=>[]) (fun s53 he=>?_) (fun _ hK46=>?_)
  ·cases he
   try dsimp only at hm
   cases hm
   exact tn<|sr<|js (qb oB)<|nt<|ct<|JE.retA rfl (RvOK.tmp rfl)
  ·refine cb<|JC.loop _ (fun s52=>[(0, D (RSlice R_api_Inst) a0), (1, D (RSlice R_api_Inst) a1), (5, D (RInt .i64) s52)]) (fun s52=>[]) _ ?_ _ hl45 ml
   intro v23 r51 _ hs48 hB49 hE50
   try dsimp only at hs48
   refine cs<|sr<|js (qa ot)<|js (qa ot)<|js (qf ot u64)<|js (qh ot ot)<|nt<|cn ot hs48 (fun hc54 hs48=>?_) fun hc54 hs48=>?_
   ·obtain ⟨hb55,hs48⟩ :=og hs48
    obtain ⟨hb56,hs48⟩ :=og hs48
    obtain ⟨hb60,hs48⟩ :=og hs48
    obtain ⟨hb66,hs48⟩ :=og hs48
    obtain ⟨x70,hx71,hs48⟩ :=ob hs48
    refine ck<|tn<|cs<|cb<|cs<|cd [17,18,19,20,21,22,23,24,25,26,27,28,29,30,31,32,33,34,35,36,37,38,39,40,41] mixed [⟨[(0, D (RSlice R_api_Inst) a0)], [(17, D (RSlice R_api_Inst) a0)], [], [], []⟩,⟨[(5, D (RInt .i64) v23)], [(18, D (RInt .i64) v23)], [], [], []⟩,⟨[(17, D (RSlice R_api_Inst) a0), (18, D (RInt .i64) v23)], [(19, D (RPtr R_api_Inst) (nth a0 v23))], [], [], []⟩,⟨[(19, D (RPtr R_api_Inst) (nth a0 v23))], [(20, D (RPtr R_api_Value) (api_Inst.Key (nth a0 v23)))], [], [], []⟩,⟨[(20, D (RPtr R_api_Value) (api_Inst.Key (nth a0 v23)))], [(21, D R_api_Value (api_Inst.Key (nth a0 v23)))], [], [], []⟩,⟨[(1, D (RSlice R_api_Inst) a1)], [(22, D (RSlice R_api_Inst) a1)], [], [], []⟩,⟨[(5, D (RInt .i64) v23)], [(23, D (RInt .i64) v23)], [], [], []⟩,⟨[(22, D (RSlice R_api_Inst) a1), (23, D (RInt .i64) v23)], [(24, D (RPtr R_api_Inst) (nth a1 v23))], [], [], []⟩,⟨[(24, D (RPtr R_api_Inst) (nth a1 v23))], [(25, D (RPtr R_api_Value) (api_Inst.Key (nth a1 v23)))], [], [], []⟩,⟨[(25, D (RPtr R_api_Value) (api_Inst.Key (nth a1 v23)))], [(26, D R_api_Value (api_Inst.Key (nth a1 v23)))], [], [], []⟩,⟨[(21, D R_api_Value (api_Inst.Key (nth a0 v23))), (26, D R_api_Value (api_Inst.Key (nth a1 v23)))], [(27, D RBool (!decide ((api_Inst.Key (nth a0 v23)) = (api_Inst.Key (nth a1 v23)))))], [], [], []⟩,⟨[(27, D RBool (!decide ((api_Inst.Key (nth a0 v23)) = (api_Inst.Key (nth a1 v23)))))], [(28, D RBool (!decide ((api_Inst.Key (nth a0 v23)) = (api_Inst.Key (nth a1 v23)))))], [], [], []⟩,⟨[(28, D RBool (!decide ((api_Inst.Key (nth a0 v23)) = (api_Inst.Key (nth a1 v23))))), (0, D (RSlice R_api_Inst) a0)], [(29, Ent.when ((!decide ((api_Inst.Key (nth a0 v23)) = (api_Inst.Key (nth a1 v23)))) = false) (D (RSlice R_api_Inst) a0))], [], [], []⟩,⟨[(28, D RBool (!decide ((api_Inst.Key (nth a0 v23)) = (api_Inst.Key (nth a1 v23))))), (5, D (RInt .i64) v23)], [(30, Ent.when ((!decide ((api_Inst.Key (nth a0 v23)) = (api_Inst.Key (nth a1 v23)))) = false) (D (RInt .i64) v23))], [], [], []⟩,⟨[(28, D RBool (!decide ((api_Inst.Key (nth a0 v23)) = (api_Inst.Key (nth a1 v23))))), (29, Ent.when ((!decide ((api_Inst.Key (nth a0 v23)) = (api_Inst.Key (nth a1 v23)))) = false) (D (RSlice R_api_Inst) a0)), (30, Ent.when ((!decide ((api_Inst.Key (nth a0 v23)) = (api_Inst.Key (nth a1 v23)))) = false) (D (RInt .i64) v23))], [(31, Ent.when ((!decide ((api_Inst.Key (nth a0 v23)) = (api_Inst.Key (nth a1 v23)))) = false) (D (RPtr R_api_Inst) (nth a0 v23)))], [], [], []⟩,⟨[(28, D RBool (!decide ((api_Inst.Key (nth a0 v23)) = (api_Inst.Key (nth a1 v23))))), (31, Ent.when ((!decide ((api_Inst.Key (nth a0 v23)) = (api_Inst.Key (nth a1 v23)))) = false) (D (RPtr R_api_Inst) (nth a0 v23)))], [(32, Ent.when ((!decide ((api_Inst.Key (nth a0 v23)) = (api_Inst.Key (nth a1 v23)))) = false) (D (RPtr (RSlice R_api_Kept)) (api_Inst.L (nth a0 v23))))], [], [], []⟩,⟨[(28, D RBool (!decide ((api_Inst.Key (nth a0 v23)) = (api_Inst.Key (nth a1 v23))))), (32, Ent.when ((!decide ((api_Inst.Key (nth a0 v23)) = (api_Inst.Key (nth a1 v23)))) = false) (D (RPtr (RSlice R_api_Kept)) (api_Inst.L (nth a0 v23))))], [(33, Ent.when ((!decide ((api_Inst.Key (nth a0 v23)) = (api_Inst.Key (nth a1 v23)))) = false) (D (RSlice R_api_Kept) (api_Inst.L (nth a0 v23))))], [], [], []⟩,⟨[(28, D RBool (!decide ((api_Inst.Key (nth a0 v23)) = (api_Inst.Key (nth a1 v23))))), (1, D (RSlice R_api_Inst) a1)], [(34, Ent.when ((!decide ((api_Inst.Key (nth a0 v23)) = (api_Inst.Key (nth a1 v23)))) = false) (D (RSlice R_api_Inst) a1))], [], [], []⟩,⟨[(28, D RBool (!decide ((api_Inst.Key (nth a0 v23)) = (api_Inst.Key (nth a1 v23))))), (5, D (RInt .i64) v23)], [(35, Ent.when ((!decide ((api_Inst.Key (nth a0 v23)) = (api_Inst.Key (nth a1 v23)))) = false) (D (RInt .i64) v23))], [], [], []⟩,⟨[(28, D RBool (!decide ((api_Inst.Key (nth a0 v23)) = (api_Inst.Key (nth a1 v23))))), (34, Ent.when ((!decide ((api_Inst.Key (nth a0 v23)) = (api_Inst.Key (nth a1 v23)))) = false) (D (RSlice R_api_Inst) a1)), (35, Ent.when ((!decide ((api_Inst.Key (nth a0 v23)) = (api_Inst.Key (nth a1 v23)))) = false) (D (RInt .i64) v23))], [(36, Ent.when ((!decide ((api_Inst.Key (nth a0 v23)) = (api_Inst.Key (nth a1 v23)))) = false) (D (RPtr R_api_Inst) (nth a1 v23)))], [], [], []⟩,⟨[(28, D RBool (!decide ((api_Inst.Key (nth a0 v23)) = (api_Inst.Key (nth a1 v23))))), (36, Ent.when ((!decide ((api_Inst.Key (nth a0 v23)) = (api_Inst.Key (nth a1 v23)))) = false) (D (RPtr R_api_Inst) (nth a1 v23)))], [(37, Ent.when ((!decide ((api_Inst.Key (nth a0 v23)) = (api_Inst.Key (nth a1 v23)))) = false) (D (RPtr (RSlice R_api_Kept)) (api_Inst.L (nth a1 v23))))], [], [], []⟩,⟨[(28, D RBool (!decide ((api_Inst.Key (nth a0 v23)) = (api_Inst.Key (nth a1 v23))))), (37, Ent.when ((!decide ((api_Inst.Key (nth a0 v23)) = (api_Inst.Key (nth a1 v23)))) = false) (D (RPtr (RSlice R_api_Kept)) (api_Inst.L (nth a1 v23))))], [(38, Ent.when ((!decide ((api_Inst.Key (nth a0 v23)) = (api_Inst.Key (nth a1 v23)))) = false) (D (RSlice R_api_Kept) (api_Inst.L (nth a1 v23))))], [], [], []⟩,⟨[(28, D RBool (!decide ((api_Inst.Key (nth a0 v23)) = (api_Inst.Key (nth a1 v23))))), (33, Ent.when ((!decide ((api_Inst.Key (nth a0 v23)) = (api_Inst.Key (nth a1 v23)))) = false) (D (RSlice R_api_Kept) (api_Inst.L (nth a0 v23)))), (38, Ent.when ((!decide ((api_Inst.Key (nth a0 v23)) = (api_Inst.Key (nth a1 v23)))) = false) (D (RSlice R_api_Kept) (api_Inst.L (nth a1 v23))))], [(39, Ent.when ((!decide ((api_Inst.Key (nth a0 v23)) = (api_Inst.Key (nth a1 v23)))) = false) (D RBool x70))], [], [], []⟩,⟨[(28, D RBool (!decide ((api_Inst.Key (nth a0 v23)) = (api_Inst.Key (nth a1 v23))))), (39, Ent.when ((!decide ((api_Inst.Key (nth a0 v23)) = (api_Inst.Key (nth a1 v23)))) = false) (D RBool x70))], [(40, Ent.when ((!decide ((api_Inst.Key (nth a0 v23)) = (api_Inst.Key (nth a1 v23)))) = false) (D RBool (!x70)))], [], [], []⟩,⟨[(28, D RBool (!decide ((api_Inst.Key (nth a0 v23)) = (api_Inst.Key (nth a1 v23))))), (40, Ent.when ((!decide ((api_Inst.Key (nth a0 v23)) = (api_Inst.Key (nth a1 v23)))) = false) (D RBool (!x70)))], [(41, D RBool ((!decide ((api_Inst.Key (nth a0 v23)) = (api_Inst.Key (nth a1 v23)))) || (!x70)))], [], [], []⟩] (al (fun _ _ h k f=>gu (qa (ot h.1)))<|al (fun _ _ h k f=>gu (qa (ot h.1)))<|al (fun _ _ h k f=>gu (qj (ot h.1) (ot h.2.1) u64 ty127 hb55))<|al (fun _ _ h k f=>gu (qx (ot h.1) (fp pl127) fo_api_Inst_0))<|al (fun _ _ h k f=>gu (qi (ot h.1) ty118))<|al (fun _ _ h k f=>gu (qa (ot h.1)))<|al (fun _ _ h k f=>gu (qa (ot h.1)))<|al (fun _ _ h k f=>gu (qj (ot h.1) (ot h.2.1) u64 ty127 hb56))<|al (fun _ _ h k f=>gu (qx (ot h.1) (fp pl127) fo_api_Inst_0))<|al (fun _ _ h k f=>gu (qi (ot h.1) ty118))<|al (fun _ _ h k f=>gu (qS (ot h.1) (ot h.2.1) eq118))<|al (fun _ _ h k f=>gu (qa (ot h.1)))<|al (fun _ _ h k f=>gg h.1 fun hg57=>qa (ot h.2.1))<|al (fun _ _ h k f=>gg h.1 fun hg58=>qa (ot h.2.1))<|al (fun _ _ h k f=>gg h.1 fun hg59=>qj (ow hg59 h.2.1) (ow hg59 h.2.2.1) u64 ty127 (hb60 hg59))<|al (fun _ _ h k f=>gg h.1 fun hg61=>qx (ow hg61 h.2.1) (fp pl127) fo_api_Inst_1)<|al (fun _ _ h k f=>gg h.1 fun hg62=>qi (ow hg62 h.2.1) ty125)<|al (fun _ _ h k f=>gg h.1 fun hg63=>qa (ot h.2.1))<|al (fun _ _ h k f=>gg h.1 fun hg64=>qa (ot h.2.1))<|al (fun _ _ h k f=>gg h.1 fun hg65=>qj (ow hg65 h.2.1) (ow hg65 h.2.2.1) u64 ty127 (hb66 hg65))<|al (fun _ _ h k f=>gg h.1 fun hg67=>qx (ow hg67 h.2.1) (fp pl127) fo_api_Inst_1)<|al (fun _ _ h k f=>gg h.1 fun hg68=>qi (ow hg68 h.2.1) ty125)<|al (fun _ _ h k f=>gg h.1 fun hg69=>qe oF (trystref09_Same_con (api_Inst.L (nth a0 v23)) (api_Inst.L (nth a1 v23)) _ (of_pos hg69 hx71)) call100 (zc (zo (ow hg69 h.2.1)) (zc (zo (ow hg69 h.2.2.1)) zn)))<|al (fun _ _ h k f=>gg h.1 fun hg72=>qr (ow hg72 h.2.1))<|al (fun _ _ h k f=>gu (qm (ot h.1) (fun hk73 => ow hk73 h.2.1)))<|an)<|jv [0,1,5,41] [] ?_
    refine nt<|cn ot hs48 (fun hc74 hs48=>?_) fun hc74 hs48=>?_
    ·cases hs48
     cases (hE50 _ rfl)
     cases hm
     exact sr<|js (qb oB)<|nt<|ct<|br<|tr<|tr<|br<|tr<|tr<|JE.retA rfl (RvOK.tmp rfl)
    ·cases hs48
     exact ck<|bn<|tn<|cr<|js (qa ot)<|js (qk ot oi)<|js (qb ot)<|jn<|mt (hB49 _ rfl)
   ·cases hs48
    cases (hE50 _ rfl)
    exact cx<|tx<|tx<|bx<|mt (hK46 _ rfl)
theorem trystref16_Same_con (a0 a1 r) (hm : trystref16_Same a0 a1 = some r) : PC 13 [D R_api_Router a0,D R_api_Router a1] (D RBool r) := by
 refine PI func13 fun w O=>?_
 unfold trystref16_Same at hm
 obtain ⟨x12,hx13,hm⟩ :=ob hm
 obtain ⟨x21,hx22,hm⟩ :=ob hm
 obtain ⟨x30,hx31,hm⟩ :=ob hm
 obtain ⟨x39,hx40,hm⟩ :=ob hm
 refine sr<|js (qq (i:=1) ot)<|js (qq (i:=2) ot)<|js (qb oB)<|nt<|cs<|sr<|js (qc ot (fp pl28))<|js (qd ot fo_api_Router_0 ty3)<|js (qc ot (fp pl28))<|js (qd ot fo_api_Router_0 ty3)<|js (qw ot ot)<|js (qa ot)<|jg (fun hg1=>qc ot (fp pl28))<|jg (fun hg2=>qd (ow hg2) fo_api_Router_4 ty3)<|jg (fun hg3=>qc ot (fp pl28))<|jg (fun hg4=>qd (ow hg4) fo_api_Router_4 ty3)<|jg (fun hg5=>qw (ow hg5) (ow hg5))<|js (qm ot (fun hk6 => ow hk6))<|js (qa ot)<|jg (fun hg7=>qc ot (fp pl28))<|jg (fun hg8=>qd (ow hg8) fo_api_Router_1 ty22)<|jg (fun hg9=>qc ot (fp pl28))<|jg (fun hg10=>qd (ow hg10) fo_api_Router_1 ty22)<|jg (fun hg11=>qe oF (trystref12_Same_con (api_Router.Topics a0) (api_Router.Topics a1) _ (of_pos hg11 hx13)) call44 (zc (zo (ow hg11)) (zc (zo (ow hg11)) zn)))<|jg (fun hg14=>qr (ow hg14))<|js (qm ot (fun hk15 => ow hk15))<|js (qa ot)<|jg (fun hg16=>qc ot (fp pl28))<|jg (fun hg17=>qd (ow hg17) fo_api_Router_2 ty23)<|jg (fun hg18=>qc ot (fp pl28))<|jg (fun hg19=>qd (ow hg19) fo_api_Router_2 ty23)<|jg (fun hg20=>qe oF (trystref13_Same_con (api_Router.Lasts a0) (api_Router.Lasts a1) _ (of_pos hg20 hx22)) call45 (zc (zo (ow hg20)) (zc (zo (ow hg20)) zn)))<|jg (fun hg23=>qr (ow hg23))<|js (qm ot (fun hk24 => ow hk24))<|js (qa ot)<|jg (fun hg25=>qc ot (fp pl28))<|jg (fun hg26=>qd (ow hg26) fo_api_Router_5 ty25)<|jg (fun hg27=>qc ot (fp pl28))<|jg (fun hg28=>qd (ow hg28) fo_api_Router_5 ty25)<|jg (fun hg29=>qe oF (trystref15_Same_con (api_Router.Out a0) (api_Router.Out a1) _ (of_pos hg29 hx31)) call46 (zc (zo (ow hg29)) (zc (zo (ow hg29)) zn)))<|jg (fun hg32=>qr (ow hg32))<|js (qm ot (fun hk33 => ow hk33))<|js (qa ot)<|jg (fun hg34=>qc ot (fp pl28))<|jg (fun hg35=>qd (ow hg35) fo_api_Router_6 ty25)<|jg (fun hg36=>qc ot (fp pl28))<|jg (fun hg37=>qd (ow hg37) fo_api_Router_6 ty25)<|jg (fun hg38=>qe oF (trystref15_Same_con (api_Router.Given a0) (api_Router.Given a1) _ (of_pos hg38 hx40)) call46 (zc (zo (ow hg38)) (zc (zo (ow hg38)) zn)))<|jg (fun hg41=>qr (ow hg41))<|js (qm ot (fun hk42 => ow hk42))<|js (qa ot)<|jg (fun hg43=>qc ot (fp pl28))<|jg (fun hg44=>qd (ow hg44) fo_api_Router_3 ty24)<|jg (fun hg45=>qf (ow hg45) u24)<|jg (fun hg46=>qc ot (fp pl28))<|jg (fun hg47=>qd (ow hg47) fo_api_Router_3 ty24)<|jg (fun hg48=>qf (ow hg48) u24)<|jg (fun hg49=>qw (ow hg49) (ow hg49))<|js (qm ot (fun hk50 => ow hk50))<|js (qa ot)<|jg (fun hg51=>qc ot (fp pl28))<|jg (fun hg52=>qd (ow hg52) fo_api_Router_7 ty26)<|jg (fun hg53=>qf (ow hg53) u26)<|jg (fun hg54=>qc ot (fp pl28))<|jg (fun hg55=>qd (ow hg55) fo_api_Router_7 ty26)<|jg (fun hg56=>qf (ow hg56) u26)<|jg (fun hg57=>qw (ow hg57) (ow hg57))<|js (qm ot (fun hk58 => ow hk58))<|nt<|cn ot hm (fun hc59 hm=>?_) fun hc59 hm=>?_
 ·cases hm
  exact sr<|js (qb oB)<|nt<|ct<|tr<|JE.retA rfl (RvOK.tmp rfl)
 ·obtain ⟨e71,hl69,hm⟩ :=ob hm
  refine ck<|tn<|cs<|sr<|js (qb oi)<|nt<|JC.joinS e71 (fun s77=>[(2, BP 1 0), (3, BP 2 0)]) (fun s77=>[(1, Box R_api_Router 28 a0), (2, Box R_api_Router 28 a1)]) (fun s77 he=>?_) (fun _ hK70=>?_)
  ·cases he
   try dsimp only at hm
   obtain ⟨e189,hl187,hm⟩ :=ob hm
   refine tn<|cs<|sr<|js (qb oi)<|nt<|JC.joinS e189 (fun s195=>[]) (fun s195=>[]) (fun s195 he=>?_) (fun _ hK188=>?_)
   ·cases he
    try dsimp only at hm
    cases hm
    exact tn<|sr<|js (qb oB)<|nt<|ct<|JE.retA rfl (RvOK.tmp rfl)
   ·refine cb<|JC.loop _ (fun s194=>[(2, BP 1 0), (3, BP 2 0), (6, D (RInt .i64) s194)]) (fun s194=>[(1, Box R_api_Router 28 a0), (2, Box R_api_Router 28 a1)]) _ ?_ _ hl187 ml
    intro v132 r193 _ hs190 hB191 hE192
    try dsimp only at hs190
    refine cs<|sr<|js (qa ot)<|js (qc ot (fp pl28))<|js (qd ot fo_api_Router_3 ty24)<|js (qf ot u24)<|js (qh ot ot)<|nt<|cn ot hs190 (fun hc196 hs190=>?_) fun hc196 hs190=>?_
    ·obtain ⟨hb197,hs190⟩ :=og hs190
     obtain ⟨hb198,hs190⟩ :=og hs190
     refine ck<|tn<|cs<|cb<|cs<|cd [96,97,98,99,100,101,102,103,104,105,7,8] mixed [⟨[(2, BP 1 0)], [(96, BP 1 3)], [], [], []⟩,⟨[(96, BP 1 3)], [(97, D (RSlice R_api_Sub) (api_Router.Subs a0))], [(1, Box R_api_Router 28 a0)], [], []⟩,⟨[(6, D (RInt .i64) v132)], [(98, D (RInt .i64) v132)], [], [], []⟩,⟨[(97, D (RSlice R_api_Sub) (api_Router.Subs a0)), (98, D (RInt .i64) v132)], [(99, D (RPtr R_api_Sub) (nth (api_Router.Subs a0) v132))], [], [], []⟩,⟨[(99, D (RPtr R_api_Sub) (nth (api_Router.Subs a0) v132))], [(100, D R_api_Sub (nth (api_Router.Subs a0) v132))], [], [], []⟩,⟨[(3, BP 2 0)], [(101, BP 2 3)], [], [], []⟩,⟨[(101, BP 2 3)], [(102, D (RSlice R_api_Sub) (api_Router.Subs a1))], [(2, Box R_api_Router 28 a1)], [], []⟩,⟨[(6, D (RInt .i64) v132)], [(103, D (RInt .i64) v132)], [], [], []⟩,⟨[(102, D (RSlice R_api_Sub) (api_Router.Subs a1)), (103, D (RInt .i64) v132)], [(104, D (RPtr R_api_Sub) (nth (api_Router.Subs a1) v132))], [], [], []⟩,⟨[(104, D (RPtr R_api_Sub) (nth (api_Router.Subs a1) v132))], [(105, D R_api_Sub (nth (api_Router.Subs a1) v132))], [], [], []⟩,⟨[], [(7, BP 7 0)], [], [(7, Box R_api_Sub 66 z_api_Sub)], [7]⟩,⟨[], [(8, BP 8 0)], [], [(8, Box R_api_Sub 66 z_api_Sub)], [8]⟩,⟨[(7, BP 7 0), (100, D R_api_Sub (nth (api_Router.Subs a0) v132))], [], [(7, Box R_api_Sub 66 z_api_Sub)], [(7, Box R_api_Sub 66 (nth (api_Router.Subs a0) v132))], []⟩] (al (fun _ _ h k f=>gu (qc (off:=3) (ot h.1) (fp pl28)))<|al (fun _ _ h k f=>gu (qd (get:=fun d => api_Router.Subs d) (ot h.1) fo_api_Router_3 ty24 (hi:=k.1)))<|al (fun _ _ h k f=>gu (qa (ot h.1)))<|al (fun _ _ h k f=>gu (qj (ot h.1) (ot h.2.1) u24 ty66 hb197))<|al (fun _ _ h k f=>gu (qi (ot h.1) ty66))<|al (fun _ _ h k f=>gu (qc (off:=3) (ot h.1) (fp pl28)))<|al (fun _ _ h k f=>gu (qd (get:=fun d => api_Router.Subs d) (ot h.1) fo_api_Router_3 ty24 (hi:=k.1)))<|al (fun _ _ h k f=>gu (qa (ot h.1)))<|al (fun _ _ h k f=>gu (qj (ot h.1) (ot h.2.1) u24 ty66 hb198))<|al (fun _ _ h k f=>gu (qi (ot h.1) ty66))<|al (fun _ _ h k f=>gu (qp (i:=7) zero66 (hi:=f.1)))<|al (fun _ _ h k f=>gu (qp (i:=8) zero66 (hi:=f.1)))<|al (fun _ _ h k f=>gu (qo (ot h.1) (ot h.2.1) ty66 (hi:=k.1)))<|an)<|jv [2,3,6,7,8,105] [1,2,7,8] ?_
     obtain ⟨x199,hx200,hs190⟩ :=ob hs190
     obtain ⟨x206,hx207,hs190⟩ :=ob hs190
     obtain ⟨x215,hx216,hs190⟩ :=ob hs190
     refine js (qo ot ot ty66)<|nt<|sr<|js (qc ot (fp pl66))<|js (qd ot fo_api_Sub_0 ty45)<|js (qc ot (fp pl66))<|js (qd ot fo_api_Sub_0 ty45)<|js (qe oF (trystref14_Same_con (api_Sub.D (nth (api_Router.Subs a0) v132)) (api_Sub.D (nth (api_Router.Subs a1) v132)) _ hx200) call47 (ze (ze zn)))<|js (qr ot)<|js (qa ot)<|jg (fun hg201=>qc ot (fp pl66))<|jg (fun hg202=>qd (ow hg202) fo_api_Sub_1 ty63)<|jg (fun hg203=>qc ot (fp pl66))<|jg (fun hg204=>qd (ow hg204) fo_api_Sub_1 ty63)<|jg (fun hg205=>qe oF (trystref14_SameOffs_con (api_Sub.Offs (nth (api_Router.Subs a0) v132)) (api_Sub.Offs (nth (api_Router.Subs a1) v132)) _ (of_pos hg205 hx207)) call48 (zc (zo (ow hg205)) (zc (zo (ow hg205)) zn)))<|jg (fun hg208=>qr (ow hg208))<|js (qm ot (fun hk209 => ow hk209))<|js (qa ot)<|jg (fun hg210=>qc ot (fp pl66))<|jg (fun hg211=>qd (ow hg211) fo_api_Sub_2 ty64)<|jg (fun hg212=>qc ot (fp pl66))<|jg (fun hg213=>qd (ow hg213) fo_api_Sub_2 ty64)<|jg (fun hg214=>qe oF (trystref10_Same_con (api_Sub.Insts (nth (api_Router.Subs a0) v132)) (api_Sub.Insts (nth (api_Router.Subs a1) v132)) _ (of_pos hg214 hx216)) call49 (zc (zo (ow hg214)) (zc (zo (ow hg214)) zn)))<|jg (fun hg217=>qr (ow hg217))<|js (qm ot (fun hk218 => ow hk218))<|js (qa ot)<|jg (fun hg219=>qc ot (fp pl66))<|jg (fun hg220=>qd (ow hg220) fo_api_Sub_3 ty3)<|jg (fun hg221=>qc ot (fp pl66))<|jg (fun hg222=>qd (ow hg222) fo_api_Sub_3 ty3)<|jg (fun hg223=>qw (ow hg223) (ow hg223))<|js (qm ot (fun hk224 => ow hk224))<|js (qa ot)<|jg (fun hg225=>qc ot (fp pl66))<|jg (fun hg226=>qd (ow hg226) fo_api_Sub_4 ty3)<|jg (fun hg227=>qc ot (fp pl66))<|jg (fun hg228=>qd (ow hg228) fo_api_Sub_4 ty3)<|jg (fun hg229=>qw (ow hg229) (ow hg229))<|js (qm ot (fun hk230 => ow hk230))<|js (qa ot)<|jg (fun hg231=>qc ot (fp pl66))<|jg (fun hg232=>qd (ow hg232) fo_api_Sub_5 ty3)<|jg (fun hg233=>qc ot (fp pl66))<|jg (fun hg234=>qd (ow hg234) fo_api_Sub_5 ty3)<|jg (fun hg235=>qw (ow hg235) (ow hg235))<|js (qm ot (fun hk236 => ow hk236))<|js (qa ot)<|jg (fun hg237=>qc ot (fp pl66))<|jg (fun hg238=>qd (ow hg238) fo_api_Sub_6 ty3)<|jg (fun hg239=>qc ot (fp pl66))<|jg (fun hg240=>qd (ow hg240) fo_api_Sub_6 ty3)<|jg (fun hg241=>qw (ow hg241) (ow hg241))<|js (qm ot (fun hk242 => ow hk242))<|js (qa ot)<|jg (fun hg243=>qc ot (fp pl66))<|jg (fun hg244=>qd (ow hg244) fo_api_Sub_7 ty3)<|jg (fun hg245=>qc ot (fp pl66))<|jg (fun hg246=>qd (ow hg246) fo_api_Sub_7 ty3)<|jg (fun hg247=>qw (ow hg247) (ow hg247))<|js (qm ot (fun hk248 => ow hk248))<|nt<|cn ot hs190 (fun hc249 hs190=>?_) fun hc249 hs190=>?_
     ·cases hs190
      cases (hE192 _ rfl)
      cases hm
      exact sr<|js (qb oB)<|nt<|ct<|br<|tr<|tr<|br<|tr<|tr<|JE.retA rfl (RvOK.tmp rfl)
     ·cases hs190
      exact ck<|bn<|tn<|cr<|js (qa ot)<|js (qk ot oi)<|js (qb ot)<|jn<|mt (hB191 _ rfl)
    ·cases hs190
     cases (hE192 _ rfl)
     exact cx<|tx<|tx<|bx<|mt (hK188 _ rfl)
  ·refine cb<|JC.loop _ (fun s76=>[(2, BP 1 0), (3, BP 2 0), (5, D (RInt .i64) s76)]) (fun s76=>[(1, Box R_api_Router 28 a0), (2, Box R_api_Router 28 a1)]) _ ?_ _ hl69 ml
   intro v64 r75 _ hs72 hB73 hE74
   try dsimp only at hs72
   refine cs<|sr<|js (qa ot)<|js (qc ot (fp pl28))<|js (qd ot fo_api_Router_7 ty26)<|js (qf ot u26)<|js (qh ot ot)<|nt<|cn ot hs72 (fun hc251 hs72=>?_) fun hc251 hs72=>?_
   ·obtain ⟨hb252,hs72⟩ :=og hs72
    obtain ⟨hb253,hs72⟩ :=og hs72
    refine ck<|tn<|cs<|cb<|cs<|cd [78,79,80,81,82,83,84,85,86,87,88] mixed [⟨[(2, BP 1 0)], [(78, BP 1 7)], [], [], []⟩,⟨[(78, BP 1 7)], [(79, D (RSlice R_api_Dead) (api_Router.Dead a0))], [(1, Box R_api_Router 28 a0)], [], []⟩,⟨[(5, D (RInt .i64) v64)], [(80, D (RInt .i64) v64)], [], [], []⟩,⟨[(79, D (RSlice R_api_Dead) (api_Router.Dead a0)), (80, D (RInt .i64) v64)], [(81, D (RPtr R_api_Dead) (nth (api_Router.Dead a0) v64))], [], [], []⟩,⟨[(81, D (RPtr R_api_Dead) (nth (api_Router.Dead a0) v64))], [(82, D R_api_Dead (nth (api_Router.Dead a0) v64))], [], [], []⟩,⟨[(3, BP 2 0)], [(83, BP 2 7)], [], [], []⟩,⟨[(83, BP 2 7)], [(84, D (RSlice R_api_Dead) (api_Router.Dead a1))], [(2, Box R_api_Router 28 a1)], [], []⟩,⟨[(5, D (RInt .i64) v64)], [(85, D (RInt .i64) v64)], [], [], []⟩,⟨[(84, D (RSlice R_api_Dead) (api_Router.Dead a1)), (85, D (RInt .i64) v64)], [(86, D (RPtr R_api_Dead) (nth (api_Router.Dead a1) v64))], [], [], []⟩,⟨[(86, D (RPtr R_api_Dead) (nth (api_Router.Dead a1) v64))], [(87, D R_api_Dead (nth (api_Router.Dead a1) v64))], [], [], []⟩,⟨[(82, D R_api_Dead (nth (api_Router.Dead a0) v64)), (87, D R_api_Dead (nth (api_Router.Dead a1) v64))], [(88, D RBool (!decide ((nth (api_Router.Dead a0) v64) = (nth (api_Router.Dead a1) v64))))], [], [], []⟩] (al (fun _ _ h k f=>gu (qc (off:=7) (ot h.1) (fp pl28)))<|al (fun _ _ h k f=>gu (qd (get:=fun d => api_Router.Dead d) (ot h.1) fo_api_Router_7 ty26 (hi:=k.1)))<|al (fun _ _ h k f=>gu (qa (ot h.1)))<|al (fun _ _ h k f=>gu (qj (ot h.1) (ot h.2.1) u26 ty72 hb252))<|al (fun _ _ h k f=>gu (qi (ot h.1) ty72))<|al (fun _ _ h k f=>gu (qc (off:=7) (ot h.1) (fp pl28)))<|al (fun _ _ h k f=>gu (qd (get:=fun d => api_Router.Dead d) (ot h.1) fo_api_Router_7 ty26 (hi:=k.1)))<|al (fun _ _ h k f=>gu (qa (ot h.1)))<|al (fun _ _ h k f=>gu (qj (ot h.1) (ot h.2.1) u26 ty72 hb253))<|al (fun _ _ h k f=>gu (qi (ot h.1) ty72))<|al (fun _ _ h k f=>gu (qS (ot h.1) (ot h.2.1) eq72))<|an)<|jv [2,3,5,88] [1,2] ?_
    refine nt<|cn ot hs72 (fun hc254 hs72=>?_) fun hc254 hs72=>?_
    ·cases hs72
     cases (hE74 _ rfl)
     cases hm
     exact sr<|js (qb oB)<|nt<|ct<|br<|tr<|tr<|br<|tr<|tr<|JE.retA rfl (RvOK.tmp rfl)
    ·cases hs72
     exact ck<|bn<|tn<|cr<|js (qa ot)<|js (qk ot oi)<|js (qb ot)<|jn<|mt (hB73 _ rfl)
   ·cases hs72
    cases (hE74 _ rfl)
    exact cx<|tx<|tx<|bx<|mt (hK70 _ rfl)
theorem shelf_none_con (a0 r) (hm : shelf_none a0 = r) : PC 102 [D R_api_Def a0] (D RBool r) := by
 refine PI func102 fun w O=>?_
 unfold shelf_none at hm
 cases hm
 exact sr<|js (qq (i:=1) ot)<|js (qb oB)<|nt<|sr<|js (qc ot (fp pl45))<|js (qd ot fo_api_Def_0 ty9)<|js (qz ot oS)<|js (qa ot)<|jg (fun hg1=>qc ot (fp pl45))<|jg (fun hg2=>qd (ow hg2) fo_api_Def_1 ty40)<|jg (fun hg3=>qf (ow hg3) u40)<|jg (fun hg4=>qy (ow hg4) oi)<|js (ql ot (fun hk5 => ow hk5))<|js (qa ot)<|jg (fun hg6=>qc ot (fp pl45))<|jg (fun hg7=>qd (ow hg7) fo_api_Def_2 ty41)<|jg (fun hg8=>qf (ow hg8) u41)<|jg (fun hg9=>qy (ow hg9) oi)<|js (ql ot (fun hk10 => ow hk10))<|js (qa ot)<|jg (fun hg11=>qc ot (fp pl45))<|jg (fun hg12=>qd (ow hg12) fo_api_Def_3 ty9)<|jg (fun hg13=>qz (ow hg13) oS)<|js (ql ot (fun hk14 => ow hk14))<|js (qa ot)<|jg (fun hg15=>qc ot (fp pl45))<|jg (fun hg16=>qd (ow hg16) fo_api_Def_4 ty43)<|jg (fun hg17=>qF pl43 zero43 Fill.nil)<|jg (fun hg18=>vp (ow hg18) (ow hg18) eq43)<|js (ql ot (fun hk19 => ow hk19))<|js (qb ot)<|nt<|ct<|JE.retA rfl (RvOK.tmp rfl)
theorem shelf_May_con (a0 r) (hm : shelf_May a0 = some r) : PC 50 [D R_api_Op a0] (D RBool r) := by
 refine PI func50 fun w O=>?_
 unfold shelf_May at hm
 refine sr<|js (qq (i:=1) ot)<|js (qb oB)<|nt<|cs<|sr<|js (qc ot (fp pl48))<|js (qd ot fo_api_Op_0 ty3)<|js (qh ot oi)<|js (qa ot)<|jg (fun hg1=>qc ot (fp pl48))<|jg (fun hg2=>qd (ow hg2) fo_api_Op_0 ty3)<|jg (fun hg3=>qs (ow hg3) oi)<|js (qm ot (fun hk4 => ow hk4))<|js (qa ot)<|jg (fun hg5=>qc ot (fp pl48))<|jg (fun hg6=>qd (ow hg6) fo_api_Op_1 ty9)<|jg (fun hg7=>qD (ow hg7) u9)<|jg (fun hg8=>qs (ow hg8) oi)<|js (qm ot (fun hk9 => ow hk9))<|nt<|cn ot hm (fun hc10 hm=>?_) fun hc10 hm=>?_
 ·cases hm
  exact sr<|js (qb oB)<|nt<|ct<|tr<|JE.retA rfl (RvOK.tmp rfl)
 ·refine ck<|tn<|cs<|sr<|js (qc ot (fp pl48))<|js (qd ot fo_api_Op_0 ty3)<|js (qy ot oi)<|nt<|cn ot hm (fun hc11 hm=>?_) fun hc11 hm=>?_
  ·obtain ⟨x12,hx13,hm⟩ :=ob hm
   cases hm
   exact sr<|js (qc ot (fp pl48))<|js (qd ot fo_api_Op_2 ty45)<|js (qe oF (offs_May_con (api_Op.D a0) _ hx13) call101 (ze zn))<|js (qb ot)<|nt<|ct<|tr<|JE.retA rfl (RvOK.tmp rfl)
  ·cases hm
   exact ck<|tn<|sr<|js (qc ot (fp pl48))<|js (qd ot fo_api_Op_2 ty45)<|js (qe oF (shelf_none_con (api_Op.D a0) _ rfl) call102 (ze zn))<|js (qb ot)<|nt<|ct<|JE.retA rfl (RvOK.tmp rfl)
theorem shelf_pen_truth_o0_con (a1 o0 r) (hm : shelf_pen_truth_o0 a1 o0 = some r) : SC 104 [(0,Bld 79 o0)] [BP 0 0,D RBool a1] [(0,Bld 79 r)] (TUP []) := by
 refine SI func104 (fun gs=>[(0, BldAt (IsV (gs 0)) 79 o0)]) (fun gs=>(.bld .nil)) fun w O gs own hk=>?_
 unfold shelf_pen_truth_o0 at hm
 refine sr<|js (qa ot)<|nt<|cn ot hm (fun hc1 hm=>?_) fun hc1 hm=>?_
 ·obtain ⟨x2,hx3,hm⟩ :=ob hm
  cases hm
  exact cr<|js (qa ot)<|js (qt ot)<|js (qc ot (fp pl79))<|js (qg (σ:=[(0, 0)]) oF (strings_Builder_WriteByte_con bld79 (by decide) (1 : Int) o0 _ hx3) call154 (.cons ot (Ren.bp rfl) (.cons oi Ren.dat .nil)) .nil (.bld rfl .nil) RenB.dat)<|jn<|JE.end0<|JE.retS0 hk (.bld rfl .nil) (.bld rfl .nil) rfl
 ·obtain ⟨x4,hx5,hm⟩ :=ob hm
  cases hm
  exact cr<|js (qa ot)<|js (qt ot)<|js (qc ot (fp pl79))<|js (qg (σ:=[(0, 0)]) oF (strings_Builder_WriteByte_con bld79 (by decide) (0 : Int) o0 _ hx5) call154 (.cons ot (Ren.bp rfl) (.cons oi Ren.dat .nil)) .nil (.bld rfl .nil) RenB.dat)<|jn<|JE.end0<|JE.retS0 hk (.bld rfl .nil) (.bld rfl .nil) rfl
theorem shelf_pen_op_o0_con (a1 o0 r) (hm : shelf_pen_op_o0 a1 o0 = some r) : SC 51 [(0,Bld 79 o0)] [BP 0 0,D R_api_Op a1] [(0,Bld 79 r)] (TUP []) := by
 refine SI func51 (fun gs=>[(0, BldAt (IsV (gs 0)) 79 o0)]) (fun gs=>(.bld .nil)) fun w O gs own hk=>?_
 unfold shelf_pen_op_o0 at hm
 obtain ⟨x1,hx2,hm⟩ :=ob hm
 obtain ⟨x3,hx4,hm⟩ :=ob hm
 obtain ⟨x5,hx6,hm⟩ :=ob hm
 obtain ⟨x7,hx8,hm⟩ :=ob hm
 obtain ⟨x9,hx10,hm⟩ :=ob hm
 refine sr<|js (qq (i:=2) ot)<|nt<|sr<|js (qa ot)<|js (qc ot (fp pl48))<|js (qd ot fo_api_Op_0 ty3)<|js (qg (σ:=[(0, 0)]) oF (shelf_pen_number_o0_con (api_Op.Kind a1) o0 _ hx2) call63 (.cons ot (Ren.bp rfl) (.cons ot Ren.dat .nil)) .nil (.bld rfl .nil) (RenB.tup .nil))<|nt<|sr<|js (qa ot)<|js (qc ot (fp pl48))<|js (qd ot fo_api_Op_1 ty9)<|js (qg (σ:=[(0, 0)]) oF (shelf_pen_text_o0_con (api_Op.S a1) x1 _ hx4) call103 (.cons ot (Ren.bp rfl) (.cons ot Ren.dat .nil)) .nil (.bld rfl .nil) (RenB.tup .nil))<|nt<|sr<|js (qa ot)<|js (qc ot (fp pl48))<|js (qd ot fo_api_Op_3 ty4)<|js (qg (σ:=[(0, 0)]) oF (shelf_pen_truth_o0_con (api_Op.Ok a1) x3 _ hx6) call104 (.cons ot (Ren.bp rfl) (.cons ot Ren.dat .nil)) .nil (.bld rfl .nil) (RenB.tup .nil))<|nt<|sr<|js (qa ot)<|js (qc ot (fp pl48))<|js (qd ot fo_api_Op_4 ty46)<|js (qg (σ:=[(0, 0)]) oF (shelf_pen_id_o0_con (api_Op.Id a1) x5 _ hx8) call105 (.cons ot (Ren.bp rfl) (.cons ot Ren.dat .nil)) .nil (.bld rfl .nil) (RenB.tup .nil))<|nt<|sr<|js (qa ot)<|js (qc ot (fp pl48))<|js (qd ot fo_api_Op_5 ty3)<|js (qg (σ:=[(0, 0)]) oF (shelf_pen_number_o0_con (api_Op.N a1) x7 _ hx10) call63 (.cons ot (Ren.bp rfl) (.cons ot Ren.dat .nil)) .nil (.bld rfl .nil) (RenB.tup .nil))<|nt<|sr<|js (qc ot (fp pl48))<|js (qd ot fo_api_Op_0 ty3)<|js (qy ot oi)<|nt<|cn ot hm (fun hc11 hm=>?_) fun hc11 hm=>?_
 ·obtain ⟨x12,hx13,hm⟩ :=ob hm
  cases hm
  exact cr<|js (qa ot)<|js (qc ot (fp pl48))<|js (qd ot fo_api_Op_2 ty45)<|js (qg (σ:=[(0, 0)]) oF (shelf_pen_def_o0_con (api_Op.D a1) x9 _ hx13) call106 (.cons ot (Ren.bp rfl) (.cons ot Ren.dat .nil)) .nil (.bld rfl .nil) (RenB.tup .nil))<|jn<|JE.end0<|JE.retS0 hk (.bld rfl .nil) (.bld rfl .nil) rfl
 ·cases hm
  exact ck<|JE.end0<|JE.retS0 hk (.bld rfl .nil) (.bld rfl .nil) rfl
theorem shelf_LayOp_con (a0 r) (hm : shelf_LayOp a0 = some r) : PC 15 [D R_api_Op a0] (TUP [D RStr r.1,D (RInt .i64) r.2]) := by
 refine PI func15 fun w O=>?_
 unfold shelf_LayOp at hm
 obtain ⟨x1,hx2,hm⟩ :=ob hm
 refine sr<|js (qq (i:=1) ot)<|js (qb oS)<|js (qb oi)<|nt<|cs<|sr<|js (qn ot ty48)<|js (qe oF (shelf_May_con a0 _ hx2) call50 (ze zn))<|js (qr ot)<|nt<|cn ot hm (fun hc3 hm=>?_) fun hc3 hm=>?_
 ·cases hm
  exact sr<|js (qb oS)<|js (qb oi)<|nt<|ct<|tr<|JE.retB rfl (RvOK.tmp rfl) (RvOK.tmp rfl)
 ·obtain ⟨x4,hx5,hm⟩ :=ob hm
  obtain ⟨x6,hx7,hm⟩ :=ob hm
  cases hm
  exact ck<|tn<|sr<|js (vf (j:=2))<|nt<|sr<|js (qn ot ty48)<|js (qg (σ:=[(0, 2)]) oF (shelf_pen_op_o0_con a0 ([] : Str) _ hx5) call51 (.cons ot (Ren.bp rfl) (.cons ot Ren.dat .nil)) .nil (.bld rfl .nil) (RenB.tup .nil))<|nt<|sr<|js (qc ot (fp pl79))<|js (qg (σ:=[(0, 2)]) oF (strings_Builder_String_con (T := 79) x4 _ hx7) call27 (.cons ot (Ren.bp rfl) .nil) .nil (.bldDead rfl .nil) RenB.dat)<|js (qb ot)<|js (qb oi)<|nt<|ct<|JE.retB rfl (RvOK.tmp rfl) (RvOK.tmp rfl)
theorem trystref20_Same_con (a0 a1 r) (hm : trystref20_Same a0 a1 = some r) : PC 16 [D R_api_Op a0,D R_api_Op a1] (D RBool r) := by
 refine PI func16 fun w O=>?_
 unfold trystref20_Same at hm
 obtain ⟨x30,hx31,hm⟩ :=ob hm
 cases hm
 exact sr<|js (qq (i:=1) ot)<|js (qq (i:=2) ot)<|js (qb oB)<|nt<|sr<|js (qc ot (fp pl48))<|js (qd ot fo_api_Op_0 ty3)<|js (qc ot (fp pl48))<|js (qd ot fo_api_Op_0 ty3)<|js (qy ot ot)<|js (qa ot)<|jg (fun hg1=>qc ot (fp pl48))<|jg (fun hg2=>qd (ow hg2) fo_api_Op_1 ty9)<|jg (fun hg3=>qc ot (fp pl48))<|jg (fun hg4=>qd (ow hg4) fo_api_Op_1 ty9)<|jg (fun hg5=>qz (ow hg5) (ow hg5))<|js (ql ot (fun hk6 => ow hk6))<|js (qa ot)<|jg (fun hg7=>qc ot (fp pl48))<|jg (fun hg8=>qd (ow hg8) fo_api_Op_3 ty4)<|jg (fun hg9=>qc ot (fp pl48))<|jg (fun hg10=>qd (ow hg10) fo_api_Op_3 ty4)<|jg (fun hg11=>vn (ow hg11) (ow hg11) u4)<|js (ql ot (fun hk12 => ow hk12))<|js (qa ot)<|jg (fun hg13=>qc ot (fp pl48))<|jg (fun hg14=>qd (ow hg14) fo_api_Op_4 ty46)<|jg (fun hg15=>qc ot (fp pl48))<|jg (fun hg16=>qd (ow hg16) fo_api_Op_4 ty46)<|jg (fun hg17=>qy (ow hg17) (ow hg17))<|js (ql ot (fun hk18 => ow hk18))<|js (qa ot)<|jg (fun hg19=>qc ot (fp pl48))<|jg (fun hg20=>qd (ow hg20) fo_api_Op_5 ty3)<|jg (fun hg21=>qc ot (fp pl48))<|jg (fun hg22=>qd (ow hg22) fo_api_Op_5 ty3)<|jg (fun hg23=>qy (ow hg23) (ow hg23))<|js (ql ot (fun hk24 => ow hk24))<|js (qa ot)<|jg (fun hg25=>qc ot (fp pl48))<|jg (fun hg26=>qd (ow hg26) fo_api_Op_2 ty45)<|jg (fun hg27=>qc ot (fp pl48))<|jg (fun hg28=>qd (ow hg28) fo_api_Op_2 ty45)<|jg (fun hg29=>qe oF (trystref14_Same_con (api_Op.D a0) (api_Op.D a1) _ (of_pos hg29 hx31)) call47 (zc (zo (ow hg29)) (zc (zo (ow hg29)) zn)))<|js (ql ot (fun hk32 => ow hk32))<|js (qb ot)<|nt<|ct<|JE.retA rfl (RvOK.tmp rfl)
theorem shelf_eye_past_o0_con (a1 a2 o0 r) (hm : shelf_eye_past_o0 a1 a2 o0 = some r) : SC 158 [(0,Box R_shelf_eye 97 o0)] [BP 0 0,D (RInt .i64) a1,D RBool a2] [(0,Box R_shelf_eye 97 r.2)] (D RBool r.1) := by
 refine SI func158 (fun gs=>[(0, BoxAt (IsV (gs 0)) R_shelf_eye 97 o0)]) (fun gs=>(.box .nil)) fun w O gs own hk=>?_
 unfold shelf_eye_past_o0 at hm
 refine sr<|js (qb oB)<|nt<|sr<|js (qa ot)<|js (qa ot)<|js (qt ot)<|js (qc ot (fp pl97))<|js (qd ot fo_shelf_eye_1 ty4)<|js (qa ot)<|jg (fun hg1=>qa ot)<|jg (fun hg2=>qr (ow hg2))<|js (qm ot (fun hk3 => ow hk3))<|js (qt ot)<|js (qc ot (fp pl97))<|js (qv ot ot fs_shelf_eye_1 ty4)<|nt<|cs<|sr<|js (qa ot)<|js (qt ot)<|js (qc ot (fp pl97))<|js (qd ot fo_shelf_eye_1 ty4)<|js (qr ot)<|nt<|cn ot hm (fun hc4 hm=>?_) fun hc4 hm=>?_
 ·obtain ⟨hb5,hm⟩ :=og hm
  cases hm
  exact cr<|js (qa ot)<|js (qa ot)<|js (qt ot)<|js (qc ot (fp pl97))<|js (qd ot fo_shelf_eye_0 ty9)<|js (qa ot)<|js (vc ot ot u9 hb5)<|js (qt ot)<|js (qc ot (fp pl97))<|js (qv ot ot fs_shelf_eye_0 ty9)<|nt<|sr<|js (qa ot)<|js (qt ot)<|js (qc ot (fp pl97))<|js (qd ot fo_shelf_eye_1 ty4)<|js (qr ot)<|js (qb ot)<|nt<|ct<|JE.retSA hk (.box rfl .nil) (.box rfl .nil) rfl (RvS.tmp rfl)
 ·cases hm
  exact ck<|tn<|sr<|js (qa ot)<|js (qt ot)<|js (qc ot (fp pl97))<|js (qd ot fo_shelf_eye_1 ty4)<|js (qr ot)<|js (qb ot)<|nt<|ct<|JE.retSA hk (.box rfl .nil) (.box rfl .nil) rfl (RvS.tmp rfl)
theorem shelf_eye_id_o0_con (o0 r) (hm : shelf_eye_id_o0 o0 = some r) : SC 109 [(0,Box R_shelf_eye 97 o0)] [BP 0 0] [(0,Box R_shelf_eye 97 r.2)] (D (RInt .u64) r.1) := by
 refine SI func109 (fun gs=>[(0, BoxAt (IsV (gs 0)) R_shelf_eye 97 o0)]) (fun gs=>(.box .nil)) fun w O gs own hk=>?_
 unfold shelf_eye_id_o0 at hm
 obtain ⟨x1,hx2,hm⟩ :=ob hm
 obtain ⟨x3,hx4,hm⟩ :=ob hm
 refine sr<|js (qb oi)<|nt<|sr<|js (qa ot)<|js (qt ot)<|js (qc ot (fp pl97))<|js (qd ot fo_shelf_eye_0 ty9)<|js (qe oF (num_Unpack_con (shelf_eye.rest_ o0) _ hx2) call159 (ze zn))<|js (qa ot)<|js (qu ot)<|js (qu ot)<|js (qu ot)<|js (qb ot)<|js (qb ot)<|js (qb ot)<|nt<|cs<|sr<|js (qa ot)<|js (qa ot)<|js (qa ot)<|js (qy ot oi)<|js (qg (σ:=[(0, 0)]) oF (shelf_eye_past_o0_con x1.2.1 (x1.2.2 == (0 : Int)) o0 _ hx4) call158 (.cons ot (Ren.bp rfl) (.cons ot Ren.dat (.cons ot Ren.dat .nil))) .nil (.box rfl .nil) RenB.dat)<|js (qr ot)<|nt<|cn ot hm (fun hc5 hm=>?_) fun hc5 hm=>?_
 ·cases hm
  exact sr<|js (qb oi)<|nt<|ct<|tr<|JE.retSA hk (.box rfl .nil) (.box rfl .nil) rfl (RvS.tmp rfl)
 ·cases hm
  exact ck<|tn<|sr<|js (qa ot)<|js (qb ot)<|nt<|ct<|JE.retSA hk (.box rfl .nil) (.box rfl .nil) rfl (RvS.tmp rfl)
theorem shelf_eye_number_o0_con (o0 r) (hm : shelf_eye_number_o0 o0 = some r) : SC 83 [(0,Box R_shelf_eye 97 o0)] [BP 0 0] [(0,Box R_shelf_eye 97 r.2)] (D (RInt .i64) r.1) := by
 refine SI func83 (fun gs=>[(0, BoxAt (IsV (gs 0)) R_shelf_eye 97 o0)]) (fun gs=>(.box .nil)) fun w O gs own hk=>?_
 unfold shelf_eye_number_o0 at hm
 obtain ⟨x1,hx2,hm⟩ :=ob hm
 cases hm
 exact sr<|js (qb oi)<|nt<|sr<|js (qa ot)<|js (qg (σ:=[(0, 0)]) oF (shelf_eye_id_o0_con o0 _ hx2) call109 (.cons ot (Ren.bp rfl) .nil) .nil (.box rfl .nil) RenB.dat)<|js (qe oF (num_Unfold_con x1.1 _ rfl) call137 (ze zn))<|js (qb ot)<|nt<|ct<|JE.retSA hk (.box rfl .nil) (.box rfl .nil) rfl (RvS.tmp rfl)
theorem shelf_eye_text_o0_con (o0 r) (hm : shelf_eye_text_o0 o0 = some r) : SC 107 [(0,Box R_shelf_eye 97 o0)] [BP 0 0] [(0,Box R_shelf_eye 97 r.2)] (D RStr r.1) := by
 refine SI func107 (fun gs=>[(0, BoxAt (IsV (gs 0)) R_shelf_eye 97 o0)]) (fun gs=>(.box .nil)) fun w O gs own hk=>?_
 unfold shelf_eye_text_o0 at hm
 obtain ⟨x1,hx2,hm⟩ :=ob hm
 obtain ⟨x3,hx4,hm⟩ :=ob hm
 refine sr<|js (qb oS)<|nt<|sr<|js (qa ot)<|js (qg (σ:=[(0, 0)]) oF (shelf_eye_id_o0_con o0 _ hx2) call109 (.cons ot (Ren.bp rfl) .nil) .nil (.box rfl .nil) RenB.dat)<|js (qb ot)<|nt<|sr<|js (qa ot)<|js (qt ot)<|js (qc ot (fp pl97))<|js (qd ot fo_shelf_eye_0 ty9)<|js (qb ot)<|nt<|cs<|sr<|js (qa ot)<|js (qa ot)<|js (qA ot u46 u3)<|js (qa ot)<|js (qa ot)<|js (qD ot u9)<|js (qA ot u3 u46)<|js (qN ot ot)<|js (qg (σ:=[(0, 0)]) oF (shelf_eye_past_o0_con (IntKind.i64.wrap x1.1) (decide (x1.1 ≤ (IntKind.u64.wrap (List.length (shelf_eye.rest_ x1.2) : Int)))) x1.2 _ hx4) call158 (.cons ot (Ren.bp rfl) (.cons ot Ren.dat (.cons ot Ren.dat .nil))) .nil (.box rfl .nil) RenB.dat)<|js (qr ot)<|nt<|cn ot hm (fun hc5 hm=>?_) fun hc5 hm=>?_
 ·cases hm
  exact sr<|js (qb oS)<|nt<|ct<|tr<|JE.retSA hk (.box rfl .nil) (.box rfl .nil) rfl (RvS.tmp rfl)
 ·obtain ⟨hb6,hm⟩ :=og hm
  cases hm
  exact ck<|tn<|sr<|js (qa ot)<|js (qa ot)<|js (qP ot ot u9 hb6)<|js (qb ot)<|nt<|ct<|JE.retSA hk (.box rfl .nil) (.box rfl .nil) rfl (RvS.tmp rfl)
theorem shelf_some_string_o0__shelf_eye_text_o0_con (o0 r) (hm : shelf_some_string_o0__shelf_eye_text_o0 o0 = some r) : SC 138 [(0,Box R_shelf_eye 97 o0)] [BP 0 0,BM 107 [BP 0 0]] [(0,Box R_shelf_eye 97 r.2)] (D (RSlice RStr) r.1) := by
 refine SI func138 (fun gs=>[(0, BoxAt (IsV (gs 0)) R_shelf_eye 97 o0)]) (fun gs=>(.box .nil)) fun w O gs own hk=>?_
 unfold shelf_some_string_o0__shelf_eye_text_o0 at hm
 obtain ⟨x1,hx2,hm⟩ :=ob hm
 obtain ⟨v4,hj5,hm⟩ :=ob hm
 refine sr<|js (qb (Opd.nil (R := RStr)))<|nt<|sr<|js (qa ot)<|js (qg (σ:=[(0, 0)]) oF (shelf_eye_id_o0_con o0 _ hx2) call109 (.cons ot (Ren.bp rfl) .nil) .nil (.box rfl .nil) RenB.dat)<|js (qb ot)<|nt<|cs<|sr<|js (qa ot)<|js (qa ot)<|js (qt ot)<|js (qc ot (fp pl97))<|js (qd ot fo_shelf_eye_0 ty9)<|js (qD ot u9)<|js (qA ot u3 u46)<|js (qs ot ot)<|nt<|JC.join [(0, BP 0 0), (1, BM 107 [BP 0 0]), (5, D (RInt .u64) x1.1)] [(0, BoxAt (IsV (gs 0)) R_shelf_eye 97 v4)] ?_ (fun _ hK6=>?_)
 ·obtain ⟨⟨v31,v32⟩,hl33,hm⟩ :=ob hm
  refine tn<|sr<|js (qK (j:=2) (R:=RStr) (E:=9) (.inr rfl))<|nt<|cs<|JC.join [(6, OS 2)] [(0, BoxAt (IsV (gs 0)) R_shelf_eye 97 v31), (2, OwnSl RStr 9 v32)] ?_ (fun _ hK34=>?_)
  ·refine tn<|sr<|js (qa ot)<|js (qb ot)<|nt<|ct ?_
   refine JE.imp (Imp.frz 2 (ts := [6, 36, 4]) rfl (.cons rfl (.cons rfl (.cons rfl .nil)))) ?_
   cases hm
   exact JE.retSA hk (.box rfl .nil) (.box rfl .nil) rfl (RvS.tmp rfl)
  ·refine cb<|JC.loop _ (fun s40=>[(0, BP 0 0), (1, BM 107 [BP 0 0]), (5, D (RInt .u64) s40.1), (6, OS 2)]) (fun s40=>[(0, BoxAt (IsV (gs 0)) R_shelf_eye 97 s40.2.1), (2, OwnSl RStr 9 s40.2.2)]) _ ?_ _ hl33 ml
   intro s40 r39 _ hs36 hB37 hE38
   obtain ⟨v18, v19, v20⟩ := s40
   try dsimp only at hs36
   refine cs<|sr<|js (qa ot)<|js (qs ot oi)<|js (qa ot)<|jg (fun hg42=>qa ot)<|jg (fun hg43=>qt (ow hg43))<|jg (fun hg44=>qc (ow hg44) (fp pl97))<|jg (fun hg45=>qd (ow hg45) fo_shelf_eye_1 ty4)<|jg (fun hg46=>qr (ow hg46))<|js (ql ot (fun hk47 => ow hk47))<|nt<|cn ot hs36 (fun hc48 hs36=>?_) fun hc48 hs36=>?_
   ·obtain ⟨x49,hx50,hs36⟩ :=ob hs36
    obtain ⟨hb51,hs36⟩ :=og hs36
    cases hs36
    refine ck<|tn<|cs<|cb<|cr<|js (qa ot)<|js (qa ot)<|js (qH (σ:=[(0, 0)]) ot (shelf_eye_text_o0_con v19 _ hx50) call107 .nil (.cons (Ren.bp rfl) .nil) (.box rfl .nil) RenB.dat)<|js (qC u40 ty9 hz9 (.cons ot .nil))<|js (qB (j:=5) ot ot u40 sl9 hb51)<|js (qb ot)<|jn<|bn<|tn<|cr<|js (qa ot)<|js (qE ot oi)<|js (qb ot)<|jn ?_
    exact JE.meetR [(0, 0), (2, 5)] (hB37 _ rfl) (by decide) (by decide) (CVR.cons (t := 0) rfl (Ren.bp rfl) (CVR.cons (t := 1) rfl (Ren.bm (.cons (Ren.bp rfl) .nil)) (CVR.cons (t := 5) rfl Ren.dat (CVR.cons (t := 6) rfl (Ren.os rfl) CVR.nil)))) (OVR.cons (i := 0) rfl RenO.box (OVR.cons (i := 5) rfl RenO.sl OVR.nil))
   ·cases hs36
    cases (hE38 _ rfl)
    exact cx<|tx<|tx<|bx<|mt hK34
 ·refine cn ot hj5 (fun hc53 hj5=>?_) fun hc53 hj5=>?_
  ·cases hj5
   exact cr<|js (qa ot)<|js (qt ot)<|js (qc ot (fp pl97))<|js (qv ot oB fs_shelf_eye_1 ty4)<|jn<|mt hK6
  ·cases hj5
   exact ck<|mt hK6
theorem shelf_eye_topic_o0_con (o0 r) (hm : shelf_eye_topic_o0 o0 = some r) : SC 85 [(0,Box R_shelf_eye 97 o0)] [BP 0 0] [(0,Box R_shelf_eye 97 r.2)] (D R_api_Topic r.1) := by
 refine SI func85 (fun gs=>[(0, BoxAt (IsV (gs 0)) R_shelf_eye 97 o0)]) (fun gs=>(.box .nil)) fun w O gs own hk=>?_
 unfold shelf_eye_topic_o0 at hm
 obtain ⟨x1,hx2,hm⟩ :=ob hm
 obtain ⟨x3,hx4,hm⟩ :=ob hm
 obtain ⟨x5,hx6,hm⟩ :=ob hm
 cases hm
 exact sr<|js (qp (i:=2) zero62)<|nt<|sr<|js (qp (i:=3) zero62)<|nt<|sr<|js (qa ot)<|js (qg (σ:=[(0, 0)]) oF (shelf_eye_text_o0_con o0 _ hx2) call107 (.cons ot (Ren.bp rfl) .nil) .nil (.box rfl .nil) RenB.dat)<|js (qc ot (fp pl62))<|js (qv ot ot fs_api_Topic_0 ty9)<|nt<|sr<|js (qa ot)<|js (qg (σ:=[(0, 0)]) oF (shelf_eye_number_o0_con x1.2 _ hx4) call83 (.cons ot (Ren.bp rfl) .nil) .nil (.box rfl .nil) RenB.dat)<|js (qc ot (fp pl62))<|js (qv ot ot fs_api_Topic_1 ty3)<|nt<|sr<|js (qa ot)<|js (qa ot)<|js (qG (Caps.cons ot (Caps.nil (xs := []))))<|js (qg (σ:=[(0, 0)]) oF (shelf_some_string_o0__shelf_eye_text_o0_con x3.2 _ hx6) call138 (.cons ot (Ren.bp rfl) (.cons ot (Ren.bm (.cons (Ren.bp rfl) .nil)) .nil)) .nil (.box rfl .nil) RenB.dat)<|js (qc ot (fp pl62))<|js (qv ot ot fs_api_Topic_2 ty40)<|nt<|sr<|js (qn ot ty62)<|js (qo ot ot ty62)<|nt<|ct<|JE.retSA hk (.box rfl .nil) (.box rfl .nil) rfl (RvS.cell rfl rfl ty62)
theorem shelf_some_api_Topic_o0__shelf_eye_topic_o0_con (o0 r) (hm : shelf_some_api_Topic_o0__shelf_eye_topic_o0 o0 = some r) : SC 84 [(0,Box R_shelf_eye 97 o0)] [BP 0 0,BM 85 [BP 0 0]] [(0,Box R_shelf_eye 97 r.2)] (D (RSlice R_api_Topic) r.1) := by
 refine SI func84 (fun gs=>[(0, BoxAt (IsV (gs 0)) R_shelf_eye 97 o0)]) (fun gs=>(.box .nil)) fun w O gs own hk=>?_
 unfold shelf_some_api_Topic_o0__shelf_eye_topic_o0 at hm
 obtain ⟨x1,hx2,hm⟩ :=ob hm
 obtain ⟨v4,hj5,hm⟩ :=ob hm
 refine sr<|js (qb (Opd.nil (R := R_api_Topic)))<|nt<|sr<|js (qa ot)<|js (qg (σ:=[(0, 0)]) oF (shelf_eye_id_o0_con o0 _ hx2) call109 (.cons ot (Ren.bp rfl) .nil) .nil (.box rfl .nil) RenB.dat)<|js (qb ot)<|nt<|cs<|sr<|js (qa ot)<|js (qa ot)<|js (qt ot)<|js (qc ot (fp pl97))<|js (qd ot fo_shelf_eye_0 ty9)<|js (qD ot u9)<|js (qA ot u3 u46)<|js (qs ot ot)<|nt<|JC.join [(0, BP 0 0), (1, BM 85 [BP 0 0]), (5, D (RInt .u64) x1.1)] [(0, BoxAt (IsV (gs 0)) R_shelf_eye 97 v4)] ?_ (fun _ hK6=>?_)
 ·obtain ⟨⟨v31,v32⟩,hl33,hm⟩ :=ob hm
  refine tn<|sr<|js (qK (j:=2) (R:=R_api_Topic) (E:=62) (.inr rfl))<|nt<|cs<|JC.join [(6, OS 2)] [(0, BoxAt (IsV (gs 0)) R_shelf_eye 97 v31), (2, OwnSl R_api_Topic 62 v32)] ?_ (fun _ hK34=>?_)
  ·refine tn<|sr<|js (qa ot)<|js (qb ot)<|nt<|ct ?_
   refine JE.imp (Imp.frz 2 (ts := [6, 36, 4]) rfl (.cons rfl (.cons rfl (.cons rfl .nil)))) ?_
   cases hm
   exact JE.retSA hk (.box rfl .nil) (.box rfl .nil) rfl (RvS.tmp rfl)
  ·refine cb<|JC.loop _ (fun s40=>[(0, BP 0 0), (1, BM 85 [BP 0 0]), (5, D (RInt .u64) s40.1), (6, OS 2)]) (fun s40=>[(0, BoxAt (IsV (gs 0)) R_shelf_eye 97 s40.2.1), (2, OwnSl R_api_Topic 62 s40.2.2)]) _ ?_ _ hl33 ml
   intro s40 r39 _ hs36 hB37 hE38
   obtain ⟨v18, v19, v20⟩ := s40
   try dsimp only at hs36
   refine cs<|sr<|js (qa ot)<|js (qs ot oi)<|js (qa ot)<|jg (fun hg42=>qa ot)<|jg (fun hg43=>qt (ow hg43))<|jg (fun hg44=>qc (ow hg44) (fp pl97))<|jg (fun hg45=>qd (ow hg45) fo_shelf_eye_1 ty4)<|jg (fun hg46=>qr (ow hg46))<|js (ql ot (fun hk47 => ow hk47))<|nt<|cn ot hs36 (fun hc48 hs36=>?_) fun hc48 hs36=>?_
   ·obtain ⟨x49,hx50,hs36⟩ :=ob hs36
    obtain ⟨hb51,hs36⟩ :=og hs36
    cases hs36
    refine ck<|tn<|cs<|cb<|cr<|js (qa ot)<|js (qa ot)<|js (qH (σ:=[(0, 0)]) ot (shelf_eye_topic_o0_con v19 _ hx50) call85 .nil (.cons (Ren.bp rfl) .nil) (.box rfl .nil) RenB.dat)<|js (qC u22 ty62 hz62 (.cons ot .nil))<|js (qB (j:=5) ot ot u22 sl62 hb51)<|js (qb ot)<|jn<|bn<|tn<|cr<|js (qa ot)<|js (qE ot oi)<|js (qb ot)<|jn ?_
    exact JE.meetR [(0, 0), (2, 5)] (hB37 _ rfl) (by decide) (by decide) (CVR.cons (t := 0) rfl (Ren.bp rfl) (CVR.cons (t := 1) rfl (Ren.bm (.cons (Ren.bp rfl) .nil)) (CVR.cons (t := 5) rfl Ren.dat (CVR.cons (t := 6) rfl (Ren.os rfl) CVR.nil)))) (OVR.cons (i := 0) rfl RenO.box (OVR.cons (i := 5) rfl RenO.sl OVR.nil))
   ·cases hs36
    cases (hE38 _ rfl)
    exact cx<|tx<|tx<|bx<|mt hK34
 ·refine cn ot hj5 (fun hc53 hj5=>?_) fun hc53 hj5=>?_
  ·cases hj5
   exact cr<|js (qa ot)<|js (qt ot)<|js (qc ot (fp pl97))<|js (qv ot oB fs_shelf_eye_1 ty4)<|jn<|mt hK6
  ·cases hj5
   exact ck<|mt hK6
theorem shelf_eye_last_o0_con (o0 r) (hm : shelf_eye_last_o0 o0 = some r) : SC 87 [(0,Box R_shelf_eye 97 o0)] [BP 0 0] [(0,Box R_shelf_eye 97 r.2)] (D R_api_Last r.1) := by
 refine SI func87 (fun gs=>[(0, BoxAt (IsV (gs 0)) R_shelf_eye 97 o0)]) (fun gs=>(.box .nil)) fun w O gs own hk=>?_
 unfold shelf_eye_last_o0 at hm
 obtain ⟨x1,hx2,hm⟩ :=ob hm
 obtain ⟨x3,hx4,hm⟩ :=ob hm
 obtain ⟨x5,hx6,hm⟩ :=ob hm
 cases hm
 exact sr<|js (qp (i:=2) zero102)<|nt<|sr<|js (qp (i:=3) zero102)<|nt<|sr<|js (qa ot)<|js (qg (σ:=[(0, 0)]) oF (shelf_eye_text_o0_con o0 _ hx2) call107 (.cons ot (Ren.bp rfl) .nil) .nil (.box rfl .nil) RenB.dat)<|js (qc ot (fp pl102))<|js (qv ot ot fs_api_Last_0 ty9)<|nt<|sr<|js (qa ot)<|js (qg (σ:=[(0, 0)]) oF (shelf_eye_id_o0_con x1.2 _ hx4) call109 (.cons ot (Ren.bp rfl) .nil) .nil (.box rfl .nil) RenB.dat)<|js (qc ot (fp pl102))<|js (qv ot ot fs_api_Last_1 ty46)<|nt<|sr<|js (qa ot)<|js (qg (σ:=[(0, 0)]) oF (shelf_eye_number_o0_con x3.2 _ hx6) call83 (.cons ot (Ren.bp rfl) .nil) .nil (.box rfl .nil) RenB.dat)<|js (qc ot (fp pl102))<|js (qv ot ot fs_api_Last_2 ty3)<|nt<|sr<|js (qn ot ty102)<|js (qo ot ot ty102)<|nt<|ct<|JE.retSA hk (.box rfl .nil) (.box rfl .nil) rfl (RvS.cell rfl rfl ty102)
theorem shelf_some_api_Last_o0__shelf_eye_last_o0_con (o0 r) (hm : shelf_some_api_Last_o0__shelf_eye_last_o0 o0 = some r) : SC 86 [(0,Box R_shelf_eye 97 o0)] [BP 0 0,BM 87 [BP 0 0]] [(0,Box R_shelf_eye 97 r.2)] (D (RSlice R_api_Last) r.1) := by
 refine SI func86 (fun gs=>[(0, BoxAt (IsV (gs 0)) R_shelf_eye 97 o0)]) (fun gs=>(.box .nil)) fun w O gs own hk=>?_
 unfold shelf_some_api_Last_o0__shelf_eye_last_o0 at hm
 obtain ⟨x1,hx2,hm⟩ :=ob hm
 obtain ⟨v4,hj5,hm⟩ :=ob hm
 refine sr<|js (qb (Opd.nil (R := R_api_Last)))<|nt<|sr<|js (qa ot)<|js (qg (σ:=[(0, 0)]) oF (shelf_eye_id_o0_con o0 _ hx2) call109 (.cons ot (Ren.bp rfl) .nil) .nil (.box rfl .nil) RenB.dat)<|js (qb ot)<|nt<|cs<|sr<|js (qa ot)<|js (qa ot)<|js (qt ot)<|js (qc ot (fp pl97))<|js (qd ot fo_shelf_eye_0 ty9)<|js (qD ot u9)<|js (qA ot u3 u46)<|js (qs ot ot)<|nt<|JC.join [(0, BP 0 0), (1, BM 87 [BP 0 0]), (5, D (RInt .u64) x1.1)] [(0, BoxAt (IsV (gs 0)) R_shelf_eye 97 v4)] ?_ (fun _ hK6=>?_)
 ·obtain ⟨⟨v31,v32⟩,hl33,hm⟩ :=ob hm
  refine tn<|sr<|js (qK (j:=2) (R:=R_api_Last) (E:=102) (.inr rfl))<|nt<|cs<|JC.join [(6, OS 2)] [(0, BoxAt (IsV (gs 0)) R_shelf_eye 97 v31), (2, OwnSl R_api_Last 102 v32)] ?_ (fun _ hK34=>?_)
  ·refine tn<|sr<|js (qa ot)<|js (qb ot)<|nt<|ct ?_
   refine JE.imp (Imp.frz 2 (ts := [6, 36, 4]) rfl (.cons rfl (.cons rfl (.cons rfl .nil)))) ?_
   cases hm
   exact JE.retSA hk (.box rfl .nil) (.box rfl .nil) rfl (RvS.tmp rfl)
  ·refine cb<|JC.loop _ (fun s40=>[(0, BP 0 0), (1, BM 87 [BP 0 0]), (5, D (RInt .u64) s40.1), (6, OS 2)]) (fun s40=>[(0, BoxAt (IsV (gs 0)) R_shelf_eye 97 s40.2.1), (2, OwnSl R_api_Last 102 s40.2.2)]) _ ?_ _ hl33 ml
   intro s40 r39 _ hs36 hB37 hE38
   obtain ⟨v18, v19, v20⟩ := s40
   try dsimp only at hs36
   refine cs<|sr<|js (qa ot)<|js (qs ot oi)<|js (qa ot)<|jg (fun hg42=>qa ot)<|jg (fun hg43=>qt (ow hg43))<|jg (fun hg44=>qc (ow hg44) (fp pl97))<|jg (fun hg45=>qd (ow hg45) fo_shelf_eye_1 ty4)<|jg (fun hg46=>qr (ow hg46))<|js (ql ot (fun hk47 => ow hk47))<|nt<|cn ot hs36 (fun hc48 hs36=>?_) fun hc48 hs36=>?_
   ·obtain ⟨x49,hx50,hs36⟩ :=ob hs36
    obtain ⟨hb51,hs36⟩ :=og hs36
    cases hs36
    refine ck<|tn<|cs<|cb<|cr<|js (qa ot)<|js (qa ot)<|js (qH (σ:=[(0, 0)]) ot (shelf_eye_last_o0_con v19 _ hx50) call87 .nil (.cons (Ren.bp rfl) .nil) (.box rfl .nil) RenB.dat)<|js (qC u23 ty102 hz102 (.cons ot .nil))<|js (qB (j:=5) ot ot u23 sl102 hb51)<|js (qb ot)<|jn<|bn<|tn<|cr<|js (qa ot)<|js (qE ot oi)<|js (qb ot)<|jn ?_
    exact JE.meetR [(0, 0), (2, 5)] (hB37 _ rfl) (by decide) (by decide) (CVR.cons (t := 0) rfl (Ren.bp rfl) (CVR.cons (t := 1) rfl (Ren.bm (.cons (Ren.bp rfl) .nil)) (CVR.cons (t := 5) rfl Ren.dat (CVR.cons (t := 6) rfl (Ren.os rfl) CVR.nil)))) (OVR.cons (i := 0) rfl RenO.box (OVR.cons (i := 5) rfl RenO.sl OVR.nil))
   ·cases hs36
    cases (hE38 _ rfl)
    exact cx<|tx<|tx<|bx<|mt hK34
 ·refine cn ot hj5 (fun hc53 hj5=>?_) fun hc53 hj5=>?_
  ·cases hj5
   exact cr<|js (qa ot)<|js (qt ot)<|js (qc ot (fp pl97))<|js (qv ot oB fs_shelf_eye_1 ty4)<|jn<|mt hK6
  ·cases hj5
   exact ck<|mt hK6
theorem shelf_eye_sub_o0_con (o0 r) (hm : shelf_eye_sub_o0 o0 = some r) : SC 89 [(0,Box R_shelf_eye 97 o0)] [BP 0 0] [(0,Box R_shelf_eye 97 r.2)] (D R_api_Sub r.1) := by
 unfold shelf_eye_sub_o0 at hm
 cases hm
theorem shelf_some_api_Sub_o0__shelf_eye_sub_o0_con (o0 r) (hm : shelf_some_api_Sub_o0__shelf_eye_sub_o0 o0 = some r) : SC 88 [(0,Box R_shelf_eye 97 o0)] [BP 0 0,BM 89 [BP 0 0]] [(0,Box R_shelf_eye 97 r.2)] (D (RSlice R_api_Sub) r.1) := by
 refine SI func88 (fun gs=>[(0, BoxAt (IsV (gs 0)) R_shelf_eye 97 o0)]) (fun gs=>(.box .nil)) fun w O gs own hk=>?_
 unfold shelf_some_api_Sub_o0__shelf_eye_sub_o0 at hm
 obtain ⟨x1,hx2,hm⟩ :=ob hm
 obtain ⟨v4,hj5,hm⟩ :=ob hm
 refine sr<|js (qb (Opd.nil (R := R_api_Sub)))<|nt<|sr<|js (qa ot)<|js (qg (σ:=[(0, 0)]) oF (shelf_eye_id_o0_con o0 _ hx2) call109 (.cons ot (Ren.bp rfl) .nil) .nil (.box rfl .nil) RenB.dat)<|js (qb ot)<|nt<|cs<|sr<|js (qa ot)<|js (qa ot)<|js (qt ot)<|js (qc ot (fp pl97))<|js (qd ot fo_shelf_eye_0 ty9)<|js (qD ot u9)<|js (qA ot u3 u46)<|js (qs ot ot)<|nt<|JC.join [(0, BP 0 0), (1, BM 89 [BP 0 0]), (5, D (RInt .u64) x1.1)] [(0, BoxAt (IsV (gs 0)) R_shelf_eye 97 v4)] ?_ (fun _ hK6=>?_)
 ·obtain ⟨⟨v31,v32⟩,hl33,hm⟩ :=ob hm
  refine tn<|sr<|js (qK (j:=2) (R:=R_api_Sub) (E:=66) (.inr rfl))<|nt<|cs<|JC.join [(6, OS 2)] [(0, BoxAt (IsV (gs 0)) R_shelf_eye 97 v31), (2, OwnSl R_api_Sub 66 v32)] ?_ (fun _ hK34=>?_)
  ·refine tn<|sr<|js (qa ot)<|js (qb ot)<|nt<|ct ?_
   refine JE.imp (Imp.frz 2 (ts := [6, 36, 4]) rfl (.cons rfl (.cons rfl (.cons rfl .nil)))) ?_
   cases hm
   exact JE.retSA hk (.box rfl .nil) (.box rfl .nil) rfl (RvS.tmp rfl)
  ·refine cb<|JC.loop _ (fun s40=>[(0, BP 0 0), (1, BM 89 [BP 0 0]), (5, D (RInt .u64) s40.1), (6, OS 2)]) (fun s40=>[(0, BoxAt (IsV (gs 0)) R_shelf_eye 97 s40.2.1), (2, OwnSl R_api_Sub 66 s40.2.2)]) _ ?_ _ hl33 ml
   intro s40 r39 _ hs36 hB37 hE38
   obtain ⟨v18, v19, v20⟩ := s40
   try dsimp only at hs36
   refine cs<|sr<|js (qa ot)<|js (qs ot oi)<|js (qa ot)<|jg (fun hg42=>qa ot)<|jg (fun hg43=>qt (ow hg43))<|jg (fun hg44=>qc (ow hg44) (fp pl97))<|jg (fun hg45=>qd (ow hg45) fo_shelf_eye_1 ty4)<|jg (fun hg46=>qr (ow hg46))<|js (ql ot (fun hk47 => ow hk47))<|nt<|cn ot hs36 (fun hc48 hs36=>?_) fun hc48 hs36=>?_
   ·obtain ⟨x49,hx50,hs36⟩ :=ob hs36
    obtain ⟨hb51,hs36⟩ :=og hs36
    cases hs36
    refine ck<|tn<|cs<|cb<|cr<|js (qa ot)<|js (qa ot)<|js (qH (σ:=[(0, 0)]) ot (shelf_eye_sub_o0_con v19 _ hx50) call89 .nil (.cons (Ren.bp rfl) .nil) (.box rfl .nil) RenB.dat)<|js (qC u24 ty66 hz66 (.cons ot .nil))<|js (qB (j:=5) ot ot u24 sl66 hb51)<|js (qb ot)<|jn<|bn<|tn<|cr<|js (qa ot)<|js (qE ot oi)<|js (qb ot)<|jn ?_
    exact JE.meetR [(0, 0), (2, 5)] (hB37 _ rfl) (by decide) (by decide) (CVR.cons (t := 0) rfl (Ren.bp rfl) (CVR.cons (t := 1) rfl (Ren.bm (.cons (Ren.bp rfl) .nil)) (CVR.cons (t := 5) rfl Ren.dat (CVR.cons (t := 6) rfl (Ren.os rfl) CVR.nil)))) (OVR.cons (i := 0) rfl RenO.box (OVR.cons (i := 5) rfl RenO.sl OVR.nil))
   ·cases hs36
    cases (hE38 _ rfl)
    exact cx<|tx<|tx<|bx<|mt hK34
 ·refine cn ot hj5 (fun hc53 hj5=>?_) fun hc53 hj5=>?_
  ·cases hj5
   exact cr<|js (qa ot)<|js (qt ot)<|js (qc ot (fp pl97))<|js (qv ot oB fs_shelf_eye_1 ty4)<|jn<|mt hK6
  ·cases hj5
   exact ck<|mt hK6
theorem shelf_some_uint64_o0__shelf_eye_id_o0_con (o0 r) (hm : shelf_some_uint64_o0__shelf_eye_id_o0 o0 = some r) : SC 143 [(0,Box R_shelf_eye 97 o0)] [BP 0 0,BM 109 [BP 0 0]] [(0,Box R_shelf_eye 97 r.2)] (D (RSlice (RInt .u64)) r.1) := by
 refine SI func143 (fun gs=>[(0, BoxAt (IsV (gs 0)) R_shelf_eye 97 o0)]) (fun gs=>(.box .nil)) fun w O gs own hk=>?_
 unfold shelf_some_uint64_o0__shelf_eye_id_o0 at hm
 obtain ⟨x1,hx2,hm⟩ :=ob hm
 obtain ⟨v4,hj5,hm⟩ :=ob hm
 refine sr<|js (qb (Opd.nil (R := (RInt .u64))))<|nt<|sr<|js (qa ot)<|js (qg (σ:=[(0, 0)]) oF (shelf_eye_id_o0_con o0 _ hx2) call109 (.cons ot (Ren.bp rfl) .nil) .nil (.box rfl .nil) RenB.dat)<|js (qb ot)<|nt<|cs<|sr<|js (qa ot)<|js (qa ot)<|js (qt ot)<|js (qc ot (fp pl97))<|js (qd ot fo_shelf_eye_0 ty9)<|js (qD ot u9)<|js (qA ot u3 u46)<|js (qs ot ot)<|nt<|JC.join [(0, BP 0 0), (1, BM 109 [BP 0 0]), (5, D (RInt .u64) x1.1)] [(0, BoxAt (IsV (gs 0)) R_shelf_eye 97 v4)] ?_ (fun _ hK6=>?_)
 ·obtain ⟨⟨v31,v32⟩,hl33,hm⟩ :=ob hm
  refine tn<|sr<|js (qK (j:=2) (R:=(RInt .u64)) (E:=46) (.inr rfl))<|nt<|cs<|JC.join [(6, OS 2)] [(0, BoxAt (IsV (gs 0)) R_shelf_eye 97 v31), (2, OwnSl (RInt .u64) 46 v32)] ?_ (fun _ hK34=>?_)
  ·refine tn<|sr<|js (qa ot)<|js (qb ot)<|nt<|ct ?_
   refine JE.imp (Imp.frz 2 (ts := [6, 36, 4]) rfl (.cons rfl (.cons rfl (.cons rfl .nil)))) ?_
   cases hm
   exact JE.retSA hk (.box rfl .nil) (.box rfl .nil) rfl (RvS.tmp rfl)
  ·refine cb<|JC.loop _ (fun s40=>[(0, BP 0 0), (1, BM 109 [BP 0 0]), (5, D (RInt .u64) s40.1), (6, OS 2)]) (fun s40=>[(0, BoxAt (IsV (gs 0)) R_shelf_eye 97 s40.2.1), (2, OwnSl (RInt .u64) 46 s40.2.2)]) _ ?_ _ hl33 ml
   intro s40 r39 _ hs36 hB37 hE38
   obtain ⟨v18, v19, v20⟩ := s40
   try dsimp only at hs36
   refine cs<|sr<|js (qa ot)<|js (qs ot oi)<|js (qa ot)<|jg (fun hg42=>qa ot)<|jg (fun hg43=>qt (ow hg43))<|jg (fun hg44=>qc (ow hg44) (fp pl97))<|jg (fun hg45=>qd (ow hg45) fo_shelf_eye_1 ty4)<|jg (fun hg46=>qr (ow hg46))<|js (ql ot (fun hk47 => ow hk47))<|nt<|cn ot hs36 (fun hc48 hs36=>?_) fun hc48 hs36=>?_
   ·obtain ⟨x49,hx50,hs36⟩ :=ob hs36
    obtain ⟨hb51,hs36⟩ :=og hs36
    cases hs36
    refine ck<|tn<|cs<|cb<|cr<|js (qa ot)<|js (qa ot)<|js (qH (σ:=[(0, 0)]) ot (shelf_eye_id_o0_con v19 _ hx50) call109 .nil (.cons (Ren.bp rfl) .nil) (.box rfl .nil) RenB.dat)<|js (qC u86 ty46 hz46 (.cons ot .nil))<|js (qB (j:=5) ot ot u86 sl46 hb51)<|js (qb ot)<|jn<|bn<|tn<|cr<|js (qa ot)<|js (qE ot oi)<|js (qb ot)<|jn ?_
    exact JE.meetR [(0, 0), (2, 5)] (hB37 _ rfl) (by decide) (by decide) (CVR.cons (t := 0) rfl (Ren.bp rfl) (CVR.cons (t := 1) rfl (Ren.bm (.cons (Ren.bp rfl) .nil)) (CVR.cons (t := 5) rfl Ren.dat (CVR.cons (t := 6) rfl (Ren.os rfl) CVR.nil)))) (OVR.cons (i := 0) rfl RenO.box (OVR.cons (i := 5) rfl RenO.sl OVR.nil))
   ·cases hs36
    cases (hE38 _ rfl)
    exact cx<|tx<|tx<|bx<|mt hK34
 ·refine cn ot hj5 (fun hc53 hj5=>?_) fun hc53 hj5=>?_
  ·cases hj5
   exact cr<|js (qa ot)<|js (qt ot)<|js (qc ot (fp pl97))<|js (qv ot oB fs_shelf_eye_1 ty4)<|jn<|mt hK6
  ·cases hj5
   exact ck<|mt hK6
theorem shelf_eye_out_o0_con (o0 r) (hm : shelf_eye_out_o0 o0 = some r) : SC 91 [(0,Box R_shelf_eye 97 o0)] [BP 0 0] [(0,Box R_shelf_eye 97 r.2)] (D R_api_Out r.1) := by
 refine SI func91 (fun gs=>[(0, BoxAt (IsV (gs 0)) R_shelf_eye 97 o0)]) (fun gs=>(.box .nil)) fun w O gs own hk=>?_
 unfold shelf_eye_out_o0 at hm
 obtain ⟨x1,hx2,hm⟩ :=ob hm
 obtain ⟨x3,hx4,hm⟩ :=ob hm
 obtain ⟨x5,hx6,hm⟩ :=ob hm
 obtain ⟨x7,hx8,hm⟩ :=ob hm
 obtain ⟨x9,hx10,hm⟩ :=ob hm
 cases hm
 exact sr<|js (qp (i:=2) zero88)<|nt<|sr<|js (qp (i:=3) zero88)<|nt<|sr<|js (qa ot)<|js (qg (σ:=[(0, 0)]) oF (shelf_eye_id_o0_con o0 _ hx2) call109 (.cons ot (Ren.bp rfl) .nil) .nil (.box rfl .nil) RenB.dat)<|js (qc ot (fp pl88))<|js (qv ot ot fs_api_Out_0 ty46)<|nt<|sr<|js (qa ot)<|js (qg (σ:=[(0, 0)]) oF (shelf_eye_text_o0_con x1.2 _ hx4) call107 (.cons ot (Ren.bp rfl) .nil) .nil (.box rfl .nil) RenB.dat)<|js (qc ot (fp pl88))<|js (qv ot ot fs_api_Out_1 ty9)<|nt<|sr<|js (qa ot)<|js (qa ot)<|js (qG (Caps.cons ot (Caps.nil (xs := []))))<|js (qg (σ:=[(0, 0)]) oF (shelf_some_uint64_o0__shelf_eye_id_o0_con x3.2 _ hx6) call143 (.cons ot (Ren.bp rfl) (.cons ot (Ren.bm (.cons (Ren.bp rfl) .nil)) .nil)) .nil (.box rfl .nil) RenB.dat)<|js (qc ot (fp pl88))<|js (qv ot ot fs_api_Out_2 ty86)<|nt<|sr<|js (qa ot)<|js (qg (σ:=[(0, 0)]) oF (shelf_eye_number_o0_con x5.2 _ hx8) call83 (.cons ot (Ren.bp rfl) .nil) .nil (.box rfl .nil) RenB.dat)<|js (qc ot (fp pl88))<|js (qv ot ot fs_api_Out_3 ty3)<|nt<|sr<|js (qa ot)<|js (qg (σ:=[(0, 0)]) oF (shelf_eye_number_o0_con x7.2 _ hx10) call83 (.cons ot (Ren.bp rfl) .nil) .nil (.box rfl .nil) RenB.dat)<|js (qc ot (fp pl88))<|js (qv ot ot fs_api_Out_4 ty3)<|nt<|sr<|js (qn ot ty88)<|js (qo ot ot ty88)<|nt<|ct<|JE.retSA hk (.box rfl .nil) (.box rfl .nil) rfl (RvS.cell rfl rfl ty88)
theorem shelf_some_api_Out_o0__shelf_eye_out_o0_con (o0 r) (hm : shelf_some_api_Out_o0__shelf_eye_out_o0 o0 = some r) : SC 90 [(0,Box R_shelf_eye 97 o0)] [BP 0 0,BM 91 [BP 0 0]] [(0,Box R_shelf_eye 97 r.2)] (D (RSlice R_api_Out) r.1) := by
 refine SI func90 (fun gs=>[(0, BoxAt (IsV (gs 0)) R_shelf_eye 97 o0)]) (fun gs=>(.box .nil)) fun w O gs own hk=>?_
 unfold shelf_some_api_Out_o0__shelf_eye_out_o0 at hm
 obtain ⟨x1,hx2,hm⟩ :=ob hm
 obtain ⟨v4,hj5,hm⟩ :=ob hm
 refine sr<|js (qb (Opd.nil (R := R_api_Out)))<|nt<|sr<|js (qa ot)<|js (qg (σ:=[(0, 0)]) oF (shelf_eye_id_o0_con o0 _ hx2) call109 (.cons ot (Ren.bp rfl) .nil) .nil (.box rfl .nil) RenB.dat)<|js (qb ot)<|nt<|cs<|sr<|js (qa ot)<|js (qa ot)<|js (qt ot)<|js (qc ot (fp pl97))<|js (qd ot fo_shelf_eye_0 ty9)<|js (qD ot u9)<|js (qA ot u3 u46)<|js (qs ot ot)<|nt<|JC.join [(0, BP 0 0), (1, BM 91 [BP 0 0]), (5, D (RInt .u64) x1.1)] [(0, BoxAt (IsV (gs 0)) R_shelf_eye 97 v4)] ?_ (fun _ hK6=>?_)
 ·obtain ⟨⟨v31,v32⟩,hl33,hm⟩ :=ob hm
  refine tn<|sr<|js (qK (j:=2) (R:=R_api_Out) (E:=88) (.inr rfl))<|nt<|cs<|JC.join [(6, OS 2)] [(0, BoxAt (IsV (gs 0)) R_shelf_eye 97 v31), (2, OwnSl R_api_Out 88 v32)] ?_ (fun _ hK34=>?_)
  ·refine tn<|sr<|js (qa ot)<|js (qb ot)<|nt<|ct ?_
   refine JE.imp (Imp.frz 2 (ts := [6, 36, 4]) rfl (.cons rfl (.cons rfl (.cons rfl .nil)))) ?_
   cases hm
   exact JE.retSA hk (.box rfl .nil) (.box rfl .nil) rfl (RvS.tmp rfl)
  ·refine cb<|JC.loop _ (fun s40=>[(0, BP 0 0), (1, BM 91 [BP 0 0]), (5, D (RInt .u64) s40.1), (6, OS 2)]) (fun s40=>[(0, BoxAt (IsV (gs 0)) R_shelf_eye 97 s40.2.1), (2, OwnSl R_api_Out 88 s40.2.2)]) _ ?_ _ hl33 ml
   intro s40 r39 _ hs36 hB37 hE38
   obtain ⟨v18, v19, v20⟩ := s40
   try dsimp only at hs36
   refine cs<|sr<|js (qa ot)<|js (qs ot oi)<|js (qa ot)<|jg (fun hg42=>qa ot)<|jg (fun hg43=>qt (ow hg43))<|jg (fun hg44=>qc (ow hg44) (fp pl97))<|jg (fun hg45=>qd (ow hg45) fo_shelf_eye_1 ty4)<|jg (fun hg46=>qr (ow hg46))<|js (ql ot (fun hk47 => ow hk47))<|nt<|cn ot hs36 (fun hc48 hs36=>?_) fun hc48 hs36=>?_
   ·obtain ⟨x49,hx50,hs36⟩ :=ob hs36
    obtain ⟨hb51,hs36⟩ :=og hs36
    cases hs36
    refine ck<|tn<|cs<|cb<|cr<|js (qa ot)<|js (qa ot)<|js (qH (σ:=[(0, 0)]) ot (shelf_eye_out_o0_con v19 _ hx50) call91 .nil (.cons (Ren.bp rfl) .nil) (.box rfl .nil) RenB.dat)<|js (qC u25 ty88 hz88 (.cons ot .nil))<|js (qB (j:=5) ot ot u25 sl88 hb51)<|js (qb ot)<|jn<|bn<|tn<|cr<|js (qa ot)<|js (qE ot oi)<|js (qb ot)<|jn ?_
    exact JE.meetR [(0, 0), (2, 5)] (hB37 _ rfl) (by decide) (by decide) (CVR.cons (t := 0) rfl (Ren.bp rfl) (CVR.cons (t := 1) rfl (Ren.bm (.cons (Ren.bp rfl) .nil)) (CVR.cons (t := 5) rfl Ren.dat (CVR.cons (t := 6) rfl (Ren.os rfl) CVR.nil)))) (OVR.cons (i := 0) rfl RenO.box (OVR.cons (i := 5) rfl RenO.sl OVR.nil))
   ·cases hs36
    cases (hE38 _ rfl)
    exact cx<|tx<|tx<|bx<|mt hK34
 ·refine cn ot hj5 (fun hc53 hj5=>?_) fun hc53 hj5=>?_
  ·cases hj5
   exact cr<|js (qa ot)<|js (qt ot)<|js (qc ot (fp pl97))<|js (qv ot oB fs_shelf_eye_1 ty4)<|jn<|mt hK6
  ·cases hj5
   exact ck<|mt hK6
theorem shelf_eye_dead_o0_con (o0 r) (hm : shelf_eye_dead_o0 o0 = some r) : SC 93 [(0,Box R_shelf_eye 97 o0)] [BP 0 0] [(0,Box R_shelf_eye 97 r.2)] (D R_api_Dead r.1) := by
 refine SI func93 (fun gs=>[(0, BoxAt (IsV (gs 0)) R_shelf_eye 97 o0)]) (fun gs=>(.box .nil)) fun w O gs own hk=>?_
 unfold shelf_eye_dead_o0 at hm
 obtain ⟨x1,hx2,hm⟩ :=ob hm
 obtain ⟨x3,hx4,hm⟩ :=ob hm
 cases hm
 exact sr<|js (qp (i:=2) zero72)<|nt<|sr<|js (qp (i:=3) zero72)<|nt<|sr<|js (qa ot)<|js (qg (σ:=[(0, 0)]) oF (shelf_eye_text_o0_con o0 _ hx2) call107 (.cons ot (Ren.bp rfl) .nil) .nil (.box rfl .nil) RenB.dat)<|js (qc ot (fp pl72))<|js (qv ot ot fs_api_Dead_0 ty9)<|nt<|sr<|js (qa ot)<|js (qg (σ:=[(0, 0)]) oF (shelf_eye_text_o0_con x1.2 _ hx4) call107 (.cons ot (Ren.bp rfl) .nil) .nil (.box rfl .nil) RenB.dat)<|js (qc ot (fp pl72))<|js (qv ot ot fs_api_Dead_1 ty9)<|nt<|sr<|js (qn ot ty72)<|js (qo ot ot ty72)<|nt<|ct<|JE.retSA hk (.box rfl .nil) (.box rfl .nil) rfl (RvS.cell rfl rfl ty72)
theorem shelf_some_api_Dead_o0__shelf_eye_dead_o0_con (o0 r) (hm : shelf_some_api_Dead_o0__shelf_eye_dead_o0 o0 = some r) : SC 92 [(0,Box R_shelf_eye 97 o0)] [BP 0 0,BM 93 [BP 0 0]] [(0,Box R_shelf_eye 97 r.2)] (D (RSlice R_api_Dead) r.1) := by
 refine SI func92 (fun gs=>[(0, BoxAt (IsV (gs 0)) R_shelf_eye 97 o0)]) (fun gs=>(.box .nil)) fun w O gs own hk=>?_
 unfold shelf_some_api_Dead_o0__shelf_eye_dead_o0 at hm
 obtain ⟨x1,hx2,hm⟩ :=ob hm
 obtain ⟨v4,hj5,hm⟩ :=ob hm
 refine sr<|js (qb (Opd.nil (R := R_api_Dead)))<|nt<|sr<|js (qa ot)<|js (qg (σ:=[(0, 0)]) oF (shelf_eye_id_o0_con o0 _ hx2) call109 (.cons ot (Ren.bp rfl) .nil) .nil (.box rfl .nil) RenB.dat)<|js (qb ot)<|nt<|cs<|sr<|js (qa ot)<|js (qa ot)<|js (qt ot)<|js (qc ot (fp pl97))<|js (qd ot fo_shelf_eye_0 ty9)<|js (qD ot u9)<|js (qA ot u3 u46)<|js (qs ot ot)<|nt<|JC.join [(0, BP 0 0), (1, BM 93 [BP 0 0]), (5, D (RInt .u64) x1.1)] [(0, BoxAt (IsV (gs 0)) R_shelf_eye 97 v4)] ?_ (fun _ hK6=>?_)
 ·obtain ⟨⟨v31,v32⟩,hl33,hm⟩ :=ob hm
  refine tn<|sr<|js (qK (j:=2) (R:=R_api_Dead) (E:=72) (.inr rfl))<|nt<|cs<|JC.join [(6, OS 2)] [(0, BoxAt (IsV (gs 0)) R_shelf_eye 97 v31), (2, OwnSl R_api_Dead 72 v32)] ?_ (fun _ hK34=>?_)
  ·refine tn<|sr<|js (qa ot)<|js (qb ot)<|nt<|ct ?_
   refine JE.imp (Imp.frz 2 (ts := [6, 36, 4]) rfl (.cons rfl (.cons rfl (.cons rfl .nil)))) ?_
   cases hm
   exact JE.retSA hk (.box rfl .nil) (.box rfl .nil) rfl (RvS.tmp rfl)
  ·refine cb<|JC.loop _ (fun s40=>[(0, BP 0 0), (1, BM 93 [BP 0 0]), (5, D (RInt .u64) s40.1), (6, OS 2)]) (fun s40=>[(0, BoxAt (IsV (gs 0)) R_shelf_eye 97 s40.2.1), (2, OwnSl R_api_Dead 72 s40.2.2)]) _ ?_ _ hl33 ml
   intro s40 r39 _ hs36 hB37 hE38
   obtain ⟨v18, v19, v20⟩ := s40
   try dsimp only at hs36
   refine cs<|sr<|js (qa ot)<|js (qs ot oi)<|js (qa ot)<|jg (fun hg42=>qa ot)<|jg (fun hg43=>qt (ow hg43))<|jg (fun hg44=>qc (ow hg44) (fp pl97))<|jg (fun hg45=>qd (ow hg45) fo_shelf_eye_1 ty4)<|jg (fun hg46=>qr (ow hg46))<|js (ql ot (fun hk47 => ow hk47))<|nt<|cn ot hs36 (fun hc48 hs36=>?_) fun hc48 hs36=>?_
   ·obtain ⟨x49,hx50,hs36⟩ :=ob hs36
    obtain ⟨hb51,hs36⟩ :=og hs36
    cases hs36
    refine ck<|tn<|cs<|cb<|cr<|js (qa ot)<|js (qa ot)<|js (qH (σ:=[(0, 0)]) ot (shelf_eye_dead_o0_con v19 _ hx50) call93 .nil (.cons (Ren.bp rfl) .nil) (.box rfl .nil) RenB.dat)<|js (qC u26 ty72 hz72 (.cons ot .nil))<|js (qB (j:=5) ot ot u26 sl72 hb51)<|js (qb ot)<|jn<|bn<|tn<|cr<|js (qa ot)<|js (qE ot oi)<|js (qb ot)<|jn ?_
    exact JE.meetR [(0, 0), (2, 5)] (hB37 _ rfl) (by decide) (by decide) (CVR.cons (t := 0) rfl (Ren.bp rfl) (CVR.cons (t := 1) rfl (Ren.bm (.cons (Ren.bp rfl) .nil)) (CVR.cons (t := 5) rfl Ren.dat (CVR.cons (t := 6) rfl (Ren.os rfl) CVR.nil)))) (OVR.cons (i := 0) rfl RenO.box (OVR.cons (i := 5) rfl RenO.sl OVR.nil))
   ·cases hs36
    cases (hE38 _ rfl)
    exact cx<|tx<|tx<|bx<|mt hK34
 ·refine cn ot hj5 (fun hc53 hj5=>?_) fun hc53 hj5=>?_
  ·cases hj5
   exact cr<|js (qa ot)<|js (qt ot)<|js (qc ot (fp pl97))<|js (qv ot oB fs_shelf_eye_1 ty4)<|jn<|mt hK6
  ·cases hj5
   exact ck<|mt hK6
theorem shelf_eye_router_o0_con (o0 r) (hm : shelf_eye_router_o0 o0 = some r) : SC 35 [(0,Box R_shelf_eye 97 o0)] [BP 0 0] [(0,Box R_shelf_eye 97 r.2)] (D R_api_Router r.1) := by
 refine SI func35 (fun gs=>[(0, BoxAt (IsV (gs 0)) R_shelf_eye 97 o0)]) (fun gs=>(.box .nil)) fun w O gs own hk=>?_
 unfold shelf_eye_router_o0 at hm
 obtain ⟨x1,hx2,hm⟩ :=ob hm
 obtain ⟨x3,hx4,hm⟩ :=ob hm
 obtain ⟨x5,hx6,hm⟩ :=ob hm
 obtain ⟨x7,hx8,hm⟩ :=ob hm
 obtain ⟨x9,hx10,hm⟩ :=ob hm
 obtain ⟨x11,hx12,hm⟩ :=ob hm
 obtain ⟨x13,hx14,hm⟩ :=ob hm
 obtain ⟨x15,hx16,hm⟩ :=ob hm
 cases hm
 exact sr<|js (qp (i:=2) zero28)<|nt<|sr<|js (qp (i:=3) zero28)<|nt<|sr<|js (qa ot)<|js (qg (σ:=[(0, 0)]) oF (shelf_eye_number_o0_con o0 _ hx2) call83 (.cons ot (Ren.bp rfl) .nil) .nil (.box rfl .nil) RenB.dat)<|js (qc ot (fp pl28))<|js (qv ot ot fs_api_Router_0 ty3)<|nt<|sr<|js (qa ot)<|js (qa ot)<|js (qG (Caps.cons ot (Caps.nil (xs := []))))<|js (qg (σ:=[(0, 0)]) oF (shelf_some_api_Topic_o0__shelf_eye_topic_o0_con x1.2 _ hx4) call84 (.cons ot (Ren.bp rfl) (.cons ot (Ren.bm (.cons (Ren.bp rfl) .nil)) .nil)) .nil (.box rfl .nil) RenB.dat)<|js (qc ot (fp pl28))<|js (qv ot ot fs_api_Router_1 ty22)<|nt<|sr<|js (qa ot)<|js (qa ot)<|js (qG (Caps.cons ot (Caps.nil (xs := []))))<|js (qg (σ:=[(0, 0)]) oF (shelf_some_api_Last_o0__shelf_eye_last_o0_con x3.2 _ hx6) call86 (.cons ot (Ren.bp rfl) (.cons ot (Ren.bm (.cons (Ren.bp rfl) .nil)) .nil)) .nil (.box rfl .nil) RenB.dat)<|js (qc ot (fp pl28))<|js (qv ot ot fs_api_Router_2 ty23)<|nt<|sr<|js (qa ot)<|js (qa ot)<|js (qG (Caps.cons ot (Caps.nil (xs := []))))<|js (qg (σ:=[(0, 0)]) oF (shelf_some_api_Sub_o0__shelf_eye_sub_o0_con x5.2 _ hx8) call88 (.cons ot (Ren.bp rfl) (.cons ot (Ren.bm (.cons (Ren.bp rfl) .nil)) .nil)) .nil (.box rfl .nil) RenB.dat)<|js (qc ot (fp pl28))<|js (qv ot ot fs_api_Router_3 ty24)<|nt<|sr<|js (qa ot)<|js (qg (σ:=[(0, 0)]) oF (shelf_eye_number_o0_con x7.2 _ hx10) call83 (.cons ot (Ren.bp rfl) .nil) .nil (.box rfl .nil) RenB.dat)<|js (qc ot (fp pl28))<|js (qv ot ot fs_api_Router_4 ty3)<|nt<|sr<|js (qa ot)<|js (qa ot)<|js (qG (Caps.cons ot (Caps.nil (xs := []))))<|js (qg (σ:=[(0, 0)]) oF (shelf_some_api_Out_o0__shelf_eye_out_o0_con x9.2 _ hx12) call90 (.cons ot (Ren.bp rfl) (.cons ot (Ren.bm (.cons (Ren.bp rfl) .nil)) .nil)) .nil (.box rfl .nil) RenB.dat)<|js (qc ot (fp pl28))<|js (qv ot ot fs_api_Router_5 ty25)<|nt<|sr<|js (qa ot)<|js (qa ot)<|js (qG (Caps.cons ot (Caps.nil (xs := []))))<|js (qg (σ:=[(0, 0)]) oF (shelf_some_api_Out_o0__shelf_eye_out_o0_con x11.2 _ hx14) call90 (.cons ot (Ren.bp rfl) (.cons ot (Ren.bm (.cons (Ren.bp rfl) .nil)) .nil)) .nil (.box rfl .nil) RenB.dat)<|js (qc ot (fp pl28))<|js (qv ot ot fs_api_Router_6 ty25)<|nt<|sr<|js (qa ot)<|js (qa ot)<|js (qG (Caps.cons ot (Caps.nil (xs := []))))<|js (qg (σ:=[(0, 0)]) oF (shelf_some_api_Dead_o0__shelf_eye_dead_o0_con x13.2 _ hx16) call92 (.cons ot (Ren.bp rfl) (.cons ot (Ren.bm (.cons (Ren.bp rfl) .nil)) .nil)) .nil (.box rfl .nil) RenB.dat)<|js (qc ot (fp pl28))<|js (qv ot ot fs_api_Router_7 ty26)<|nt<|sr<|js (qn ot ty28)<|js (qo ot ot ty28)<|nt<|ct<|JE.retSA hk (.box rfl .nil) (.box rfl .nil) rfl (RvS.cell rfl rfl ty28)
theorem shelf_eye_whole_con (a0 r) (hm : shelf_eye_whole a0 = r) : PC 36 [D (RPtr R_shelf_eye) a0] (D RBool r) := by
 refine PI func36 fun w O=>?_
 unfold shelf_eye_whole at hm
 cases hm
 exact sr<|js (qb oB)<|nt<|sr<|js (qa ot)<|js (vw ot)<|js (qx ot (fp pl97) fo_shelf_eye_1)<|js (qi ot ty4)<|js (qr ot)<|js (qa ot)<|jg (fun hg1=>qa ot)<|jg (fun hg2=>vw (ow hg2))<|jg (fun hg3=>qx (ow hg3) (fp pl97) fo_shelf_eye_0)<|jg (fun hg4=>qi (ow hg4) ty9)<|jg (fun hg5=>qz (ow hg5) oS)<|js (ql ot (fun hk6 => ow hk6))<|js (qb ot)<|nt<|ct<|JE.retA rfl (RvOK.tmp rfl)
theorem shelf_Take_con (a0 r) (hm : shelf_Take a0 = some r) : PC 11 [D RStr a0] (TUP [D R_api_Router r.1,D (RInt .i64) r.2]) := by
 refine PI func11 fun w O=>?_
 unfold shelf_Take at hm
 obtain ⟨x1,hx2,hm⟩ :=ob hm
 obtain ⟨x5,hx6,hm⟩ :=ob hm
 refine sr<|js (qp (i:=1) zero28)<|js (qb oi)<|nt<|sr<|js (qa ot)<|js (qF pl97 zero97 (Fill.cons rfl ot fs_shelf_eye_0 Fill.nil))<|js (qp (i:=2) zero97)<|js (qo ot ot ty97)<|nt<|sr<|js (qg (σ:=[(0, 2)]) oF (shelf_eye_router_o0_con (⟨a0, false⟩ : shelf_eye) _ hx2) call35 (.cons ot (Ren.bp rfl) .nil) .nil (.box rfl .nil) RenB.dat)<|js (qp (i:=3) zero28)<|js (qo ot ot ty28)<|nt<|cs<|sr<|js (qL (F:=[2]) oF (shelf_eye_whole_con x1.2 _ rfl) call36 (zc (OpdF.bp ot rfl FieldOf.self rfl) zn) FzE.nil WI.bool)<|js (qr ot)<|js (qa ot)<|jg (fun hg3=>qn ot ty28)<|jg (fun hg4=>qe oF (route_Check_con x1.1 _ (of_pos hg4 hx6)) call25 (zc (zo (ow hg4)) zn))<|jg (fun hg7=>qw (ow hg7) oi)<|js (qm ot (fun hk8 => ow hk8))<|nt<|cn ot hm (fun hc9 hm=>?_) fun hc9 hm=>?_
 ·cases hm
  exact sr<|js (qF pl28 zero28 Fill.nil)<|js (qo ot ot ty28)<|js (qb oi)<|nt<|ct<|tr<|JE.retB rfl (RvOK.cell rfl rfl ty28) (RvOK.tmp rfl)
 ·cases hm
  exact ck<|tn<|sr<|js (qn ot ty28)<|js (qo ot ot ty28)<|js (qb oi)<|nt<|ct<|JE.retB rfl (RvOK.cell rfl rfl ty28) (RvOK.tmp rfl)
theorem trystlaw20_awake_con (r) (hm : trystlaw20_awake = some r) : PC 10 [] (D RBool r) := by
 refine PI func10 fun w O=>?_
 unfold trystlaw20_awake at hm
 obtain ⟨x1,hx2,hm⟩ :=ob hm
 obtain ⟨x3,hx4,hm⟩ :=ob hm
 obtain ⟨x5,hx6,hm⟩ :=ob hm
 cases hm
 exact sr<|js (qb oB)<|nt<|sr<|js (qF pl28 zero28 Fill.nil)<|js (qe oF (shelf_Lay_con z_api_Router _ hx2) call8 (ze zn))<|js (qa ot)<|js (qu ot)<|js (qu ot)<|js (qb ot)<|js (qb ot)<|nt<|sr<|js (qF pl48 zero48 (Fill.cons rfl oi fs_api_Op_0 Fill.nil))<|js (qe oF (shelf_LayOp_con (⟨(10 : Int), [], z_api_Def, false, 0, 0⟩ : api_Op) _ hx4) call15 (ze zn))<|js (qa ot)<|js (qu ot)<|js (qu ot)<|js (qb ot)<|js (qb ot)<|nt<|sr<|js (qe oF (shelf_Take_con ([] : Str) _ hx6) call11 (zc (zo oS) zn))<|js (qa ot)<|js (qu ot)<|js (qu ot)<|js (qp (i:=1) zero28)<|js (qo ot ot ty28)<|js (qb ot)<|nt<|sr<|js (qa ot)<|js (qz ot oS)<|js (qa ot)<|jg (fun hg7=>qa ot)<|jg (fun hg8=>qy (ow hg8) oi)<|js (ql ot (fun hk9 => ow hk9))<|js (qa ot)<|jg (fun hg10=>qa ot)<|jg (fun hg11=>qz (ow hg11) oS)<|js (ql ot (fun hk12 => ow hk12))<|js (qa ot)<|jg (fun hg13=>qa ot)<|jg (fun hg14=>qy (ow hg14) oi)<|js (ql ot (fun hk15 => ow hk15))<|js (qa ot)<|jg (fun hg16=>qa ot)<|jg (fun hg17=>qy (ow hg17) oi)<|js (ql ot (fun hk18 => ow hk18))<|js (qa ot)<|js (qm ot (fun _ => oB))<|js (qa ot)<|js (qm ot (fun _ => oB))<|js (qa ot)<|js (qm ot (fun _ => oB))<|js (qb ot)<|nt<|ct<|JE.retA rfl (RvOK.tmp rfl)
theorem trystlaw20_ShelfSame_con (a0 r) (hm : trystlaw20_ShelfSame a0 = some r) : PC 5 [D R_trystlaw20_Two a0] (D RBool r) := by
 refine PI func5 fun w O=>?_
 unfold trystlaw20_ShelfSame at hm
 obtain ⟨x1,hx2,hm⟩ :=ob hm
 obtain ⟨x3,hx4,hm⟩ :=ob hm
 obtain ⟨x5,hx6,hm⟩ :=ob hm
 obtain ⟨x7,hx8,hm⟩ :=ob hm
 refine sr<|js (qq (i:=1) ot)<|js (qb oB)<|nt<|cs<|cd [15,16,17,18,19,20,21,22,23,24,25,26,3,4,5,6] mixed [⟨[(1, BP 1 0)], [(15, BP 1 0)], [], [], []⟩,⟨[(15, BP 1 0)], [(16, D R_api_Router (trystlaw20_Two.A a0))], [(1, Box R_trystlaw20_Two 50 a0)], [], []⟩,⟨[(16, D R_api_Router (trystlaw20_Two.A a0))], [(17, D R_api_Router x1)], [], [], []⟩,⟨[(1, BP 1 0)], [(18, BP 1 8)], [], [], []⟩,⟨[(18, BP 1 8)], [(19, D R_api_Router (trystlaw20_Two.B a0))], [(1, Box R_trystlaw20_Two 50 a0)], [], []⟩,⟨[(19, D R_api_Router (trystlaw20_Two.B a0))], [(20, D R_api_Router x3)], [], [], []⟩,⟨[(1, BP 1 0)], [(21, BP 1 16)], [], [], []⟩,⟨[(21, BP 1 16)], [(22, D R_api_Op (trystlaw20_Two.O a0))], [(1, Box R_trystlaw20_Two 50 a0)], [], []⟩,⟨[(22, D R_api_Op (trystlaw20_Two.O a0))], [(23, D R_api_Op x5)], [], [], []⟩,⟨[(1, BP 1 0)], [(24, BP 1 29)], [], [], []⟩,⟨[(24, BP 1 29)], [(25, D R_api_Op (trystlaw20_Two.P a0))], [(1, Box R_trystlaw20_Two 50 a0)], [], []⟩,⟨[(25, D R_api_Op (trystlaw20_Two.P a0))], [(26, D R_api_Op x7)], [], [], []⟩,⟨[], [(3, BP 2 0)], [], [(2, Box R_api_Router 28 z_api_Router)], [2]⟩,⟨[], [(4, BP 3 0)], [], [(3, Box R_api_Router 28 z_api_Router)], [3]⟩,⟨[], [(5, BP 4 0)], [], [(4, Box R_api_Op 48 z_api_Op)], [4]⟩,⟨[], [(6, BP 5 0)], [], [(5, Box R_api_Op 48 z_api_Op)], [5]⟩,⟨[(3, BP 2 0), (17, D R_api_Router x1)], [], [(2, Box R_api_Router 28 z_api_Router)], [(2, Box R_api_Router 28 x1)], []⟩,⟨[(4, BP 3 0), (20, D R_api_Router x3)], [], [(3, Box R_api_Router 28 z_api_Router)], [(3, Box R_api_Router 28 x3)], []⟩,⟨[(5, BP 4 0), (23, D R_api_Op x5)], [], [(4, Box R_api_Op 48 z_api_Op)], [(4, Box R_api_Op 48 x5)], []⟩] (al (fun _ _ h k f=>gu (qc (off:=0) (ot h.1) (fp pl50)))<|al (fun _ _ h k f=>gu (qd (get:=fun d => trystlaw20_Two.A d) (ot h.1) fo_trystlaw20_Two_0 ty28 (hi:=k.1)))<|al (fun _ _ h k f=>gu (qe oF (trystlaw16_Few_con (trystlaw20_Two.A a0) _ hx2) call7 (zc (zo (ot h.1)) zn)))<|al (fun _ _ h k f=>gu (qc (off:=8) (ot h.1) (fp pl50)))<|al (fun _ _ h k f=>gu (qd (get:=fun d => trystlaw20_Two.B d) (ot h.1) fo_trystlaw20_Two_1 ty28 (hi:=k.1)))<|al (fun _ _ h k f=>gu (qe oF (trystlaw16_Few_con (trystlaw20_Two.B a0) _ hx4) call7 (zc (zo (ot h.1)) zn)))<|al (fun _ _ h k f=>gu (qc (off:=16) (ot h.1) (fp pl50)))<|al (fun _ _ h k f=>gu (qd (get:=fun d => trystlaw20_Two.O d) (ot h.1) fo_trystlaw20_Two_2 ty48 (hi:=k.1)))<|al (fun _ _ h k f=>gu (qe oF (trystlaw20_Cut_con (trystlaw20_Two.O a0) _ hx6) call14 (zc (zo (ot h.1)) zn)))<|al (fun _ _ h k f=>gu (qc (off:=29) (ot h.1) (fp pl50)))<|al (fun _ _ h k f=>gu (qd (get:=fun d => trystlaw20_Two.P d) (ot h.1) fo_trystlaw20_Two_3 ty48 (hi:=k.1)))<|al (fun _ _ h k f=>gu (qe oF (trystlaw20_Cut_con (trystlaw20_Two.P a0) _ hx8) call14 (zc (zo (ot h.1)) zn)))<|al (fun _ _ h k f=>gu (qp (i:=2) zero28 (hi:=f.1)))<|al (fun _ _ h k f=>gu (qp (i:=3) zero28 (hi:=f.1)))<|al (fun _ _ h k f=>gu (qp (i:=4) zero48 (hi:=f.1)))<|al (fun _ _ h k f=>gu (qp (i:=5) zero48 (hi:=f.1)))<|al (fun _ _ h k f=>gu (qo (ot h.1) (ot h.2.1) ty28 (hi:=k.1)))<|al (fun _ _ h k f=>gu (qo (ot h.1) (ot h.2.1) ty28 (hi:=k.1)))<|al (fun _ _ h k f=>gu (qo (ot h.1) (ot h.2.1) ty48 (hi:=k.1)))<|an)<|jv [3,4,5,6,26] [2,3,4,5] ?_
 obtain ⟨x9,hx10,hm⟩ :=ob hm
 obtain ⟨x11,hx12,hm⟩ :=ob hm
 obtain ⟨x22,hx23,hm⟩ :=ob hm
 refine js (qo ot ot ty48)<|nt<|sr<|js (qn ot ty28)<|js (qe oF (shelf_Lay_con x1 _ hx10) call8 (ze zn))<|js (qa ot)<|js (qu ot)<|js (qu ot)<|js (qb ot)<|js (qb ot)<|nt<|sr<|js (qn ot ty28)<|js (qe oF (shelf_Lay_con x3 _ hx12) call8 (ze zn))<|js (qa ot)<|js (qu ot)<|js (qu ot)<|js (qb ot)<|js (qb ot)<|nt<|cs<|sr<|js (qa ot)<|js (qy ot oi)<|js (qa ot)<|jg (fun hg13=>qa ot)<|jg (fun hg14=>qy (ow hg14) oi)<|js (ql ot (fun hk15 => ow hk15))<|js (qa ot)<|jg (fun hg16=>qa ot)<|jg (fun hg17=>qa ot)<|jg (fun hg18=>qz (ow hg18) (ow hg18))<|jg (fun hg19=>qn ot ty28)<|jg (fun hg20=>qn ot ty28)<|jg (fun hg21=>qe oF (trystref16_Same_con x1 x3 _ (of_pos hg21 hx23)) call13 (zc (zo (ow hg21)) (zc (zo (ow hg21)) zn)))<|jg (fun hg24=>vB (ow hg24) (ow hg24) u4)<|js (ql ot (fun hk25 => ow hk25))<|nt<|cn ot hm (fun hc26 hm=>?_) fun hc26 hm=>?_
 ·cases hm
  exact sr<|js (qb oB)<|nt<|ct<|tr<|JE.retA rfl (RvOK.tmp rfl)
 ·obtain ⟨x27,hx28,hm⟩ :=ob hm
  obtain ⟨x29,hx30,hm⟩ :=ob hm
  obtain ⟨x40,hx41,hm⟩ :=ob hm
  obtain ⟨x45,hx46,hm⟩ :=ob hm
  cases hm
  exact ck<|tn<|sr<|js (qn ot ty48)<|js (qe oF (shelf_LayOp_con x5 _ hx28) call15 (ze zn))<|js (qa ot)<|js (qu ot)<|js (qu ot)<|js (qb ot)<|js (qb ot)<|nt<|sr<|js (qn ot ty48)<|js (qe oF (shelf_LayOp_con x7 _ hx30) call15 (ze zn))<|js (qa ot)<|js (qu ot)<|js (qu ot)<|js (qb ot)<|js (qb ot)<|nt<|sr<|js (qa ot)<|js (qw ot oi)<|js (qa ot)<|jg (fun hg31=>qa ot)<|jg (fun hg32=>qw (ow hg32) oi)<|js (qm ot (fun hk33 => ow hk33))<|js (qa ot)<|jg (fun hg34=>qa ot)<|jg (fun hg35=>qa ot)<|jg (fun hg36=>qz (ow hg36) (ow hg36))<|jg (fun hg37=>qn ot ty48)<|jg (fun hg38=>qn ot ty48)<|jg (fun hg39=>qe oF (trystref20_Same_con x5 x7 _ (of_pos hg39 hx41)) call16 (zc (zo (ow hg39)) (zc (zo (ow hg39)) zn)))<|jg (fun hg42=>vn (ow hg42) (ow hg42) u4)<|js (qm ot (fun hk43 => ow hk43))<|js (qa ot)<|jg (fun hg44=>qe oF (trystlaw20_awake_con  _ (of_pos hg44 hx46)) call10 zn)<|js (ql ot (fun hk47 => ow hk47))<|js (qb ot)<|nt<|ct<|JE.retA rfl (RvOK.tmp rfl)
end Go.Proofs
