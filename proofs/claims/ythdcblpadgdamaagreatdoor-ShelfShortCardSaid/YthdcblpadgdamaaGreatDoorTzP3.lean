import Derived.Test.YthdcblpadgdamaaGreatDoorTzP2
set_option linter.all false
set_option maxRecDepth 100000
set_option maxHeartbeats 4000000
namespace Go.Proofs
open Go Go.Trw Tryz
theorem val_text_con (a0) (r) (hm : val_text a0 = some r) : PC 260 [D RStr a0] (TUP [D RStr r.1,D (RInt .i64) r.2]) := by
 refine PI func260 fun w O=>?_
 unfold val_text at hm
 obtain ⟨hb1,hm⟩ :=og hm
 obtain ⟨e96,hl94,hm⟩ :=ob hm
 refine sr<|js (qb oS)<|js (qb oi)<|nt<|sr<|js (vh (j:=1) oi oi u75 sl5 zero5 hb1)<|js (qb ot)<|nt<|cs<|sr<|js (qb oi)<|nt<|JC.joinS e96 (fun s102=>[]) (fun s102=>[]) (fun s102 he=>?_) (fun _ hK95=>?_)
 ·cases he
  try dsimp only at hm
  cases hm
  exact tn<|sr<|js (qb oS)<|js (qb oi)<|nt<|ct<|JE.retB rfl (RvOK.tmp rfl) (RvOK.tmp rfl)
 ·refine cb<|JC.loop _ (fun s101=>[(0, D RStr a0), (4, OS 1), (5, D (RInt .i64) s101.1)]) (fun s101=>[(1, OwnSl (RInt .u8) 5 s101.2)]) _ ?_ _ hl94 ml
  intro s101 r100 _ hs97 hB98 hE99
  obtain ⟨v47, v48⟩ := s101
  try dsimp only at hs97
  refine cs<|sr<|js (qa ot)<|js (qa ot)<|js (qD ot u9)<|js (qh ot ot)<|nt<|cn ot hs97 (fun hc103 hs97=>?_) fun hc103 hs97=>?_
  ·obtain ⟨hb104,hs97⟩ :=og hs97
   obtain ⟨e125,hj123,hs97⟩ :=ob hs97
   refine ck<|tn<|cs<|cb<|cs<|sr<|js (qa ot)<|js (qa ot)<|js (qU ot ot u9 hb104)<|nt<|JC.joinS e125 (fun s129=>[(0, D RStr a0), (4, OS 1), (5, D (RInt .i64) s129)]) (fun s129=>[(1, OwnSl (RInt .u8) 5 v48)]) (fun v122 he=>?_) (fun _ hK124=>?_)
   ·cases he
    try dsimp only at hs97
    refine tn<|cs<|sr<|js (qa ot)<|js (qX ot u75)<|js (qy ot oi)<|nt<|cn ot hs97 (fun hc126 hs97=>?_) fun hc126 hs97=>?_
    ·cases hs97
     cases (hE99 _ rfl)
     cases hm
     exact sr<|js (qb oS)<|js (qb oi)<|nt<|ct<|tr<|br<|tr<|tr<|br<|tr<|tr<|JE.retB rfl (RvOK.tmp rfl) (RvOK.tmp rfl)
    ·obtain ⟨hb127,hs97⟩ :=og hs97
     obtain ⟨hb128,hs97⟩ :=og hs97
     cases hs97
     refine ck<|tn<|cr<|js (qa ot)<|js (qa ot)<|js (qa ot)<|js (qU ot ot u9 hb127)<|js (qC u75 ty5 hz5 (.cons ot .nil))<|js (qB (j:=4) ot ot u75 sl5 hb128)<|js (qb ot)<|jn<|bn<|tn<|cr<|js (qa ot)<|js (qk ot oi)<|js (qb ot)<|jn ?_
     exact JE.meetR [(1, 4)] (hB98 _ rfl) (by decide) (by decide) (CVR.cons (t := 0) rfl Ren.dat (CVR.cons (t := 4) rfl (Ren.os rfl) (CVR.cons (t := 5) rfl Ren.dat CVR.nil))) (OVR.cons (i := 4) rfl RenO.sl OVR.nil)
   ·refine cb<|sr<|js (qy ot oi)<|js (qb ot)<|nt<|cn ot hj123 (fun hc130 hj123=>?_) fun hc130 hj123=>?_
    ·refine sr<|js (qa ot) ?_
     refine JL.imp (Imp.frz 1 (ts := [4, 18]) rfl (.cons rfl (.cons rfl .nil))) ?_
     cases hj123
     cases hs97
     cases (hE99 _ rfl)
     cases hm
     exact js (va ot u75 u5 u9)<|js (qa ot)<|js (qk ot oi)<|js (qb ot)<|js (qb ot)<|nt<|ct<|br<|tr<|tr<|br<|tr<|tr<|br<|tr<|tr<|JE.retB rfl (RvOK.tmp rfl) (RvOK.tmp rfl)
    ·refine sr<|js (qy ot oi)<|js (qb ot)<|nt<|cn ot hj123 (fun hc131 hj123=>?_) fun hc131 hj123=>?_
     ·obtain ⟨hb135,hj123⟩ :=og hj123
      obtain ⟨hb141,hj123⟩ :=og hj123
      refine sr<|js (qa ot)<|js (qk ot oi)<|js (qb ot)<|nt<|sr<|js (qa ot)<|js (qa ot)<|js (qD ot u9)<|js (qy ot ot)<|js (qa ot)<|jg (fun hg132=>qa ot)<|jg (fun hg133=>qa ot)<|jg (fun hg134=>qU (ow hg134) (ow hg134) u9 (hb135 hg134))<|jg (fun hg136=>qw (ow hg136) oi)<|jg (fun hg137=>qa (ow hg137))<|jh (fun hg138=>qa ot)<|jh (fun hg139=>qa ot)<|jh (fun hg140=>qU (ow hg140) (ow hg140) u9 (hb141 hg140))<|jh (fun hg142=>qw (ow hg142) oi)<|jg (fun hg143=>ql (ow hg143) (fun hk144 => ow (And.intro hg143 hk144)))<|js (qm ot (fun hk145 => ow hk145))<|nt<|cn ot hj123 (fun hc146 hj123=>?_) fun hc146 hj123=>?_
      ·cases hj123
       cases hs97
       cases (hE99 _ rfl)
       cases hm
       exact sr<|js (qb oS)<|js (qb oi)<|nt<|ct<|br<|tr<|tr<|br<|tr<|tr<|br<|tr<|tr<|JE.retB rfl (RvOK.tmp rfl) (RvOK.tmp rfl)
      ·cases hj123
       exact ck<|bn<|mt (hK124 _ rfl)
     ·cases hj123
      exact ck<|bn<|mt (hK124 _ rfl)
  ·cases hs97
   cases (hE99 _ rfl)
   exact cx<|tx<|tx<|bx<|mt (hK95 _ rfl)
theorem val_number_1_con (a0) (c0) (r) (hm : val_number_1 a0 c0 = some r) : PC 267 [D (RInt .i64) a0,D (RPtr RStr) c0] (D RBool r) := by
 refine PI func267 fun w O=>?_
 unfold val_number_1 at hm
 obtain ⟨hb4,hm⟩ :=og hm
 obtain ⟨hb10,hm⟩ :=og hm
 cases hm
 exact sr<|js (qb oB)<|nt<|sr<|js (qa ot)<|js (qi ot ty9)<|js (qD ot u9)<|js (qh ot ot)<|js (qa ot)<|jg (fun hg1=>qi ot ty9)<|jg (fun hg2=>qa ot)<|jg (fun hg3=>qU (ow hg3) (ow hg3) u9 (hb4 hg3))<|jg (fun hg5=>qI (ow hg5) oi)<|js (ql ot (fun hk6 => ow hk6))<|js (qa ot)<|jg (fun hg7=>qi ot ty9)<|jg (fun hg8=>qa ot)<|jg (fun hg9=>qU (ow hg9) (ow hg9) u9 (hb10 hg9))<|jg (fun hg11=>qN (ow hg11) oi)<|js (ql ot (fun hk12 => ow hk12))<|js (qb ot)<|nt<|ct<|JE.retA rfl (RvOK.tmp rfl)
theorem val_number_con (a0) (r) (hm : val_number a0 = some r) : PC 261 [D RStr a0] (TUP [D (RInt .i64) r.1,D (RInt .i64) r.2]) := by
 refine PI func261 fun w O=>?_
 unfold val_number at hm
 obtain ⟨⟨v2,v3⟩,hj4,hm⟩ :=ob hm
 refine sr<|js (qq (i:=1) ot)<|js (qb oi)<|js (qb oi)<|nt<|sr<|js (qR (Caps.cons ot (Caps.nil (xs := []))))<|js (qb ot)<|nt<|sr<|js (qn ot ty9)<|js (qe oF (strings_HasPrefix_con a0 ([45] : Str) _ rfl) call237 (ze (zc (zo oS) zn)))<|js (qb ot)<|nt<|sr<|js (qb oi)<|js (qb oi)<|nt<|cs<|sr<|js (qa ot)<|nt<|JC.join [(1, BP 1 0), (4, FV 267 [BP 1 0]), (5, D RBool (strings_HasPrefix a0 ([45] : Str))), (6, D (RInt .i64) v2), (7, D (RInt .u64) v3)] [(1, Box RStr 9 a0)] ?_ (fun _ hK5=>?_)
 ·obtain ⟨x7,hx8,hm⟩ :=ob hm
  obtain ⟨hb14,hm⟩ :=og hm
  refine tn<|cs<|sr<|js (qa ot)<|js (qa ot)<|js (qL (F:=[1]) ot (val_number_1_con v2 a0 _ hx8) call267 (ze zn) (FzE.bp rfl FieldOf.self rfl FzE.nil) WI.bool)<|js (qr ot)<|js (qa ot)<|jg (fun hg9=>qa ot)<|jg (fun hg10=>qa (ow hg10))<|jh (fun hg11=>qn ot ty9)<|jh (fun hg12=>qa ot)<|jh (fun hg13=>qU (ow hg13) (ow hg13) u9 (hb14 hg13))<|jh (fun hg15=>qy (ow hg15) oi)<|jg (fun hg16=>ql (ow hg16) (fun hk17 => ow (And.intro hg16 hk17)))<|js (qm ot (fun hk18 => ow hk18))<|nt<|cn ot hm (fun hc19 hm=>?_) fun hc19 hm=>?_
  ·cases hm
   exact sr<|js (qb oi)<|js (qb oi)<|nt<|ct<|tr<|JE.retB rfl (RvOK.tmp rfl) (RvOK.tmp rfl)
  ·obtain ⟨hb20,hm⟩ :=og hm
   refine ck<|tn<|cs<|sr<|js (qn ot ty9)<|js (qa ot)<|js (qU ot ot u9 hb20)<|js (qy ot oi)<|nt<|cn ot hm (fun hc21 hm=>?_) fun hc21 hm=>?_
   ·cases hm
    exact sr<|js (qb oi)<|js (qb oi)<|nt<|ct<|tr<|JE.retB rfl (RvOK.tmp rfl) (RvOK.tmp rfl)
   ·obtain ⟨⟨v34,v35⟩,hl36,hm⟩ :=ob hm
    refine ck<|tn<|sr<|js (qb oi)<|nt<|cs<|JC.join [(5, D RBool (strings_HasPrefix a0 ([45] : Str))), (6, D (RInt .i64) v34), (8, D (RInt .u64) v35)] [] ?_ (fun _ hK37=>?_)
    ·refine tn<|cs<|sr<|js (qa ot)<|nt<|cn ot hm (fun hc45 hm=>?_) fun hc45 hm=>?_
     ·cases hm
      exact sr<|js (qa ot)<|js (qA ot u46 u2)<|js (vv ot)<|js (qa ot)<|js (qb ot)<|js (qb ot)<|nt<|ct<|tr<|JE.retB rfl (RvOK.tmp rfl) (RvOK.tmp rfl)
     ·cases hm
      exact ck<|tn<|sr<|js (qa ot)<|js (qA ot u46 u2)<|js (qa ot)<|js (qb ot)<|js (qb ot)<|nt<|ct<|JE.retB rfl (RvOK.tmp rfl) (RvOK.tmp rfl)
    ·refine cb<|JC.loop _ (fun s43=>[(1, BP 1 0), (4, FV 267 [BP 1 0]), (5, D RBool (strings_HasPrefix a0 ([45] : Str))), (6, D (RInt .i64) s43.1), (7, D (RInt .u64) v3), (8, D (RInt .u64) s43.2)]) (fun s43=>[(1, Box RStr 9 a0)]) _ ?_ _ hl36 ml
     intro s43 r42 _ hs39 hB40 hE41
     obtain ⟨v27, v28⟩ := s43
     try dsimp only at hs39
     obtain ⟨x46,hx47,hs39⟩ :=ob hs39
     refine cs<|sr<|js (qa ot)<|js (qa ot)<|js (qL (F:=[1]) ot (val_number_1_con v27 a0 _ hx47) call267 (ze zn) (FzE.bp rfl FieldOf.self rfl FzE.nil) WI.bool)<|nt<|cn ot hs39 (fun hc48 hs39=>?_) fun hc48 hs39=>?_
     ·obtain ⟨hb49,hs39⟩ :=og hs39
      refine ck<|tn<|cs<|cb<|sr<|js (qn ot ty9)<|js (qa ot)<|js (qU ot ot u9 hb49)<|js (qE ot oi)<|js (qA ot u5 u46)<|js (qb ot)<|nt<|cs<|sr<|js (qa ot)<|js (qa ot)<|js (qa ot)<|js (qE ot ot)<|js (vR ot oi (by decide))<|js (qs ot ot)<|nt<|cn ot hs39 (fun hc50 hs39=>?_) fun hc50 hs39=>?_
      ·cases hs39
       cases (hE41 _ rfl)
       exact cx<|tx<|bo<|tx<|tx<|bx<|mt hK37
      ·cases hs39
       exact ck<|tn<|cr<|js (qa ot)<|js (vK ot oi)<|js (qa ot)<|js (qk ot ot)<|js (qb ot)<|jn<|bn<|tn<|cr<|js (qa ot)<|js (qk ot oi)<|js (qb ot)<|jn<|mt (hB40 _ rfl)
     ·cases hs39
      cases (hE41 _ rfl)
      exact cx<|tx<|tx<|bx<|mt hK37
 ·refine cn ot hj4 (fun hc52 hj4=>?_) fun hc52 hj4=>?_
  ·cases hj4
   exact cr<|js (qb oi)<|js (qb oi)<|jn<|mt hK5
  ·cases hj4
   exact ck<|mt hK5
theorem val_Read_con (a0) (r) (hm : val_Read a0 = some r) : PC 253 [D RStr a0] (TUP [D R_api_Value r.1,D (RInt .i64) r.2.1,D (RInt .i64) r.2.2]) := by
 refine PI func253 fun w O=>?_
 unfold val_Read at hm
 obtain ⟨⟨v6,v7⟩,hj8,hm⟩ :=ob hm
 refine sr<|js (qp (i:=1) zero118)<|js (qb oi)<|js (qb oi)<|nt<|sr<|js (qp (i:=2) zero118)<|nt<|sr<|js (qb oi)<|nt<|cs<|sr<|js (qa ot)<|js (qe oF (strings_HasPrefix_con a0 ([34] : Str) _ rfl) call237 (ze (zc (zo oS) zn)))<|nt<|JC.join [(2, BP 1 0), (5, BP 2 0), (6, D (RInt .i64) v6)] [(1, Box R_api_Value 118 z_api_Value), (2, Box R_api_Value 118 v7)] ?_ (fun _ hK9=>?_)
 ·refine tn<|cs<|sr<|js (qa ot)<|js (qy ot oi)<|nt<|cn ot hm (fun hc11 hm=>?_) fun hc11 hm=>?_
  ·cases hm
   exact sr<|js (qF pl118 zero118 Fill.nil)<|js (qo ot ot ty118)<|js (qb oi)<|js (qb oi)<|nt<|ct<|tr<|JE.retC rfl (RvOK.cell rfl rfl ty118) (RvOK.tmp rfl) (RvOK.tmp rfl)
  ·cases hm
   exact ck<|tn<|sr<|js (qn ot ty118)<|js (qa ot)<|js (qo ot ot ty118)<|js (qb ot)<|js (qb oi)<|nt<|ct<|JE.retC rfl (RvOK.cell rfl rfl ty118) (RvOK.tmp rfl) (RvOK.tmp rfl)
 ·refine cn ot hj8 (fun hc13 hj8=>?_) fun hc13 hj8=>?_
  ·obtain ⟨x14,hx15,hj8⟩ :=ob hj8
   cases hj8
   exact cr<|js (qa ot)<|js (qe oF (val_text_con a0 _ hx15) call260 (ze zn))<|js (qa ot)<|js (qu ot)<|js (qu ot)<|js (qc ot (fp pl118))<|js (qv ot ot fs_api_Value_2 ty9)<|js (qb ot)<|jn<|mt hK9
  ·obtain ⟨x16,hx17,hj8⟩ :=ob hj8
   cases hj8
   exact sr<|js (qc ot (fp pl118))<|js (qv ot oB fs_api_Value_0 ty4)<|nt<|cr<|js (qa ot)<|js (qe oF (val_number_con a0 _ hx17) call261 (ze zn))<|js (qa ot)<|js (qu ot)<|js (qu ot)<|js (qc ot (fp pl118))<|js (qv ot ot fs_api_Value_1 ty2)<|js (qb ot)<|jn<|mt hK9
theorem pred_parser_compared_o0_con (a1) (a2) (a3) (o0) (r) (hm : pred_parser_compared_o0 a1 a2 a3 o0 = some r) : SC 238 [(0,Box R_pred_parser 282 o0)] [BP 0 0,D RStr a1,D RStr a2,D RStr a3] [(0,Box R_pred_parser 282 r.2.2)] (TUP [D R_api_Pred r.1,D RBool r.2.1]) := by
 refine SI func238 (fun gs=>[(0, BoxAt (IsV (gs 0)) R_pred_parser 282 o0)]) (fun gs=>(.box .nil)) fun w O gs own hk=>?_
 unfold pred_parser_compared_o0 at hm
 obtain ⟨x1,hx2,hm⟩ :=ob hm
 refine sr<|js (qp (i:=2) zero120)<|js (qb oB)<|nt<|sr<|js (qa ot)<|js (qe oF (val_Read_con a3 _ hx2) call253 (ze zn))<|js (qa ot)<|js (qu ot)<|js (qu ot)<|js (qu ot)<|js (qp (i:=3) zero118)<|js (qo ot ot ty118)<|js (qb ot)<|js (qb ot)<|nt<|cs<|sr<|js (qa ot)<|js (qw ot oi)<|nt<|cn ot hm (fun hc3 hm=>?_) fun hc3 hm=>?_
 ·cases hm
  exact sr<|js (qF pl120 zero120 Fill.nil)<|js (qo ot ot ty120)<|js (qb oB)<|nt<|ct<|tr<|JE.retSB hk (.box rfl .nil) (.box rfl .nil) rfl (RvS.cell rfl rfl ty120) (RvS.tmp rfl)
 ·obtain ⟨hb4,hm⟩ :=og hm
  refine ck<|tn<|sr<|js (qa ot)<|js (qa ot)<|js (qa ot)<|js (vc ot ot u9 hb4)<|js (qt ot)<|js (qc ot (fp pl282))<|js (qv ot ot fs_pred_parser_0 ty9)<|nt<|cs<|cd mixed (da [1] (gu (qa ot))<|da [2] (gu (qa ot))<|db [10] [3] [] (gu (qn ot ty118))<|da [28,29,30] (gu (qF pl120 zero120 (Fill.cons rfl ot fs_api_Pred_0 (Fill.cons rfl ot fs_api_Pred_1 (Fill.cons rfl ot fs_api_Pred_2 Fill.nil)))))<|da [0] (gu (qa ot))<|de [32] [0] [] (gu (qg (σ:=[(0, 0)]) oF (pred_parser_skip_o0_con ([41] : Str) ({ o0 with s_ := List.drop (Int.toNat x1.2.1) a3 }) _ rfl) call222 (.cons ot (Ren.bp rfl) (.cons oS Ren.dat .nil)) .nil (.box (AOC.get rfl) .nil) RenB.dat))<|an)<|jv [8,31,33] [0,2] ?_
  cases hm
  exact js (qo ot ot ty120)<|js (qb ot)<|nt<|ct<|JE.retSB hk (.box rfl .nil) (.box rfl .nil) rfl (RvS.cell rfl rfl ty120) (RvS.tmp rfl)
theorem pred_parser_inner_o0_con (rec_) (hrec : ∀ (a1 : Int) (o0 : pred_parser) (r : (api_Pred × Bool × pred_parser)), rec_ a1 o0 = some r → SCon Base prog 211 [(0, Box R_pred_parser 282 o0)] [BP 0 0, D (RInt .i64) a1] [(0, Box R_pred_parser 282 r.2.2)] (TUP [D R_api_Pred r.1, D RBool r.2.1])) (a1) (o0) (r) (hm : pred_parser_inner_o0 rec_ a1 o0 = some r) : SC 224 [(0,Box R_pred_parser 282 o0)] [BP 0 0,D (RInt .i64) a1] [(0,Box R_pred_parser 282 r.2.2)] (TUP [D R_api_Pred r.1,D RBool r.2.1]) := by
 refine SI func224 (fun gs=>[(0, BoxAt (IsV (gs 0)) R_pred_parser 282 o0)]) (fun gs=>(.box .nil)) fun w O gs own hk=>?_
 unfold pred_parser_inner_o0 at hm
 obtain ⟨x1,hx2,hm⟩ :=ob hm
 obtain ⟨x3,hx4,hm⟩ :=ob hm
 obtain ⟨e20,hj18,hm⟩ :=ob hm
 refine sr<|js (qp (i:=2) zero120)<|js (qb oB)<|nt<|cs<|sr<|js (qa ot)<|js (qt ot)<|js (qc ot (fp pl282))<|js (qd ot fo_pred_parser_0 ty9)<|js (qe oF (strings_Cut_con (pred_parser.s_ o0) ([32] : Str) _ hx2) call205 (ze (zc (zo oS) zn)))<|js (qa ot)<|js (qu ot)<|js (qu ot)<|js (qu ot)<|js (qb ot)<|js (qb ot)<|js (qb ot)<|nt<|sr<|js (qa ot)<|js (qe oF (event_Field_con x1.1 _ hx4) call113 (ze zn))<|nt<|JC.joinS e20 (fun s38=>[(0, BP 0 0), (1, D (RInt .i64) a1), (4, BP 2 0)]) (fun s38=>[(0, BoxAt (IsV (gs 0)) R_pred_parser 282 o0), (2, Box R_api_Pred 120 z_api_Pred)]) (fun s38 he=>?_) (fun _ hK19=>?_)
 ·cases he
  try dsimp only at hm
  obtain ⟨x21,hx22,hm⟩ :=ob hm
  refine tn<|sr<|js (qa ot)<|js (qa ot)<|js (qg (σ:=[(0, 0)]) oF (hrec a1 o0 _ hx22) call211 (.cons ot (Ren.bp rfl) (.cons ot Ren.dat .nil)) .nil (.box rfl .nil) (RenB.tup (.cons (.cons .nil))))<|js (qa ot)<|js (qu ot)<|js (qu ot)<|js (qp (i:=4) zero120)<|js (qo ot ot ty120)<|js (qb ot)<|nt<|cs<|sr<|js (qa ot)<|js (qr ot)<|nt<|cn ot hm (fun hc23 hm=>?_) fun hc23 hm=>?_
  ·cases hm
   exact sr<|js (qF pl120 zero120 Fill.nil)<|js (qo ot ot ty120)<|js (qb oB)<|nt<|ct<|tr<|JE.retSB hk (.box rfl .nil) (.box rfl .nil) rfl (RvS.cell rfl rfl ty120) (RvS.tmp rfl)
  ·obtain ⟨e30,hj28,hm⟩ :=ob hm
   refine ck<|tn<|sr<|js (qb oS)<|nt<|cs<|sr<|js (qa ot)<|js (qg (σ:=[(0, 0)]) oF (pred_parser_skip_o0_con ([32, 97, 110, 100, 32] : Str) x21.2.2 _ rfl) call222 (.cons ot (Ren.bp rfl) (.cons oS Ren.dat .nil)) .nil (.box rfl .nil) RenB.dat)<|js (qr ot)<|nt<|JC.joinS e30 (fun s34=>[(0, BP 0 0), (1, D (RInt .i64) a1), (4, BP 2 0), (11, BP 4 0), (13, D RStr s34.1)]) (fun s34=>[(0, BoxAt (IsV (gs 0)) R_pred_parser 282 s34.2), (2, Box R_api_Pred 120 z_api_Pred), (4, Box R_api_Pred 120 x21.1)]) (fun s34 he=>?_) (fun _ hK29=>?_)
   ·cases he
    obtain ⟨v26, v27⟩ := s34
    try dsimp only at hm
    obtain ⟨x31,hx32,hm⟩ :=ob hm
    refine tn<|sr<|js (qa ot)<|js (qa ot)<|js (qg (σ:=[(0, 0)]) oF (hrec a1 v27 _ hx32) call211 (.cons ot (Ren.bp rfl) (.cons ot Ren.dat .nil)) .nil (.box rfl .nil) (RenB.tup (.cons (.cons .nil))))<|js (qa ot)<|js (qu ot)<|js (qu ot)<|js (qp (i:=5) zero120)<|js (qo ot ot ty120)<|js (qb ot)<|nt<|cs<|gsc x31.2.1 hm (fun hc33 hm=>?_) fun hc33 hm=>?_
    ·refine cd mixed (da [13] (gu (qa ot))<|db [11] [4] [] (gu (qn ot ty120))<|db [14] [5] [] (gu (qn ot ty120))<|da [90,91] (gu (qC u41 ty120 hz120 (.cons ot (.cons ot .nil))))<|da [89,92] (gu (qF pl120 zero120 (Fill.cons rfl ot fs_api_Pred_0 (Fill.cons rfl ot fs_api_Pred_3 Fill.nil))))<|da [12] (gu (qa ot))<|da [94] (gu (qa ot))<|da [95,0] (GS.stepG hc33 (qa ot))<|de [95,96] [0] [] (GS.stepG hc33 (qg (σ:=[(0, 0)]) oF (pred_parser_skip_o0_con ([41] : Str) x31.2.2 _ rfl) call222 (.cons ot (Ren.bp rfl) (.cons oS Ren.dat .nil)) .nil (.box (AOC.get rfl) .nil) RenB.dat))<|da [95,97] (gu (op_pickT ot hc33 ot))<|dc [4,93] [2] [] (gu (qo ot ot ty120))<|an)<|jv [4,98] [0,2] ?_
     cases hm
     exact js (qb ot)<|nt<|ct<|JE.retSB hk (.box rfl .nil) (.box rfl .nil) rfl (RvS.cell rfl rfl ty120) (RvS.tmp rfl)
    ·refine cd mixed (da [13] (gu (qa ot))<|db [11] [4] [] (gu (qn ot ty120))<|db [14] [5] [] (gu (qn ot ty120))<|da [90,91] (gu (qC u41 ty120 hz120 (.cons ot (.cons ot .nil))))<|da [89,92] (gu (qF pl120 zero120 (Fill.cons rfl ot fs_api_Pred_0 (Fill.cons rfl ot fs_api_Pred_3 Fill.nil))))<|da [12] (gu (qa ot))<|da [94] (gu (qa ot))<|da [95] (GS.skipG hc33)<|da [95] (GS.skipG hc33)<|da [95] (gu (op_pickF ot hc33 oB))<|dc [4,93] [2] [] (gu (qo ot ot ty120))<|an)<|jv [4,98] [0,2] ?_
     cases hm
     exact js (qb ot)<|nt<|ct<|JE.retSB hk (.box rfl .nil) (.box rfl .nil) rfl (RvS.cell rfl rfl ty120) (RvS.tmp rfl)
   ·refine cn ot hj28 (fun hc35 hj28=>?_) fun hc35 hj28=>?_
    ·refine sr<|js (qb oS)<|nt<|sr<|js (qa ot)<|js (qg (σ:=[(0, 0)]) oF (pred_parser_skip_o0_con ([32, 111, 114, 32] : Str) ((pred_parser_skip_o0 ([32, 97, 110, 100, 32] : Str) x21.2.2).2) _ rfl) call222 (.cons ot (Ren.bp rfl) (.cons oS Ren.dat .nil)) .nil (.box rfl .nil) RenB.dat)<|js (qr ot)<|nt<|cn ot hj28 (fun hc36 hj28=>?_) fun hc36 hj28=>?_
     ·cases hj28
      cases hm
      exact sr<|js (qF pl120 zero120 Fill.nil)<|js (qo ot ot ty120)<|js (qb oB)<|nt<|ct<|tr<|tr<|JE.retSB hk (.box rfl .nil) (.box rfl .nil) rfl (RvS.cell rfl rfl ty120) (RvS.tmp rfl)
     ·cases hj28
      exact ck<|mt (hK29 _ rfl)
    ·cases hj28
     exact ck<|mt (hK29 _ rfl)
 ·refine cn ot hj18 (fun hc39 hj18=>?_) fun hc39 hj18=>?_
  ·refine cb<|sr<|js (qa ot)<|js (qe oF (strings_HasPrefix_con x1.2.1 ([61, 32] : Str) _ rfl) call237 (ze (zc (zo oS) zn)))<|js (qb ot)<|nt<|cn ot hj18 (fun hc40 hj18=>?_) fun hc40 hj18=>?_
   ·obtain ⟨hb41,hj18⟩ :=og hj18
    obtain ⟨x42,hx43,hj18⟩ :=ob hj18
    cases hj18
    cases hm
    exact sr<|js (qa ot)<|js (qa ot)<|js (qa ot)<|js (vc ot oi u9 hb41)<|js (qg (σ:=[(0, 0)]) oF (pred_parser_compared_o0_con ([101, 113] : Str) x1.1 (List.drop (Int.toNat (2 : Int)) x1.2.1) o0 _ hx43) call238 (.cons ot (Ren.bp rfl) (.cons oS Ren.dat (.cons ot Ren.dat (.cons ot Ren.dat .nil)))) .nil (.box rfl .nil) (RenB.tup (.cons (.cons .nil))))<|js (qu ot)<|js (qu ot)<|js (qo ot ot ty120)<|js (qb ot)<|nt<|ct<|br<|tr<|tr<|JE.retSB hk (.box rfl .nil) (.box rfl .nil) rfl (RvS.cell rfl rfl ty120) (RvS.tmp rfl)
   ·refine sr<|js (qa ot)<|js (qe oF (strings_HasPrefix_con x1.2.1 ([60, 32] : Str) _ rfl) call237 (ze (zc (zo oS) zn)))<|js (qb ot)<|nt<|cn ot hj18 (fun hc44 hj18=>?_) fun hc44 hj18=>?_
    ·obtain ⟨hb45,hj18⟩ :=og hj18
     obtain ⟨x46,hx47,hj18⟩ :=ob hj18
     cases hj18
     cases hm
     exact sr<|js (qa ot)<|js (qa ot)<|js (qa ot)<|js (vc ot oi u9 hb45)<|js (qg (σ:=[(0, 0)]) oF (pred_parser_compared_o0_con ([108, 116] : Str) x1.1 (List.drop (Int.toNat (2 : Int)) x1.2.1) o0 _ hx47) call238 (.cons ot (Ren.bp rfl) (.cons oS Ren.dat (.cons ot Ren.dat (.cons ot Ren.dat .nil)))) .nil (.box rfl .nil) (RenB.tup (.cons (.cons .nil))))<|js (qu ot)<|js (qu ot)<|js (qo ot ot ty120)<|js (qb ot)<|nt<|ct<|br<|tr<|tr<|JE.retSB hk (.box rfl .nil) (.box rfl .nil) rfl (RvS.cell rfl rfl ty120) (RvS.tmp rfl)
    ·refine sr<|js (qa ot)<|js (qz ot oS)<|js (qb ot)<|nt<|cn ot hj18 (fun hc48 hj18=>?_) fun hc48 hj18=>?_
     ·obtain ⟨x49,hx50,hj18⟩ :=ob hj18
      refine sr<|js (qa ot)<|js (qa ot)<|js (qt ot)<|js (qc ot (fp pl282))<|js (qv ot ot fs_pred_parser_0 ty9)<|nt<|sr<|js (qa ot)<|js (qa ot)<|js (qg (σ:=[(0, 0)]) oF (hrec a1 ({ o0 with s_ := x1.2.1 }) _ hx50) call211 (.cons ot (Ren.bp rfl) (.cons ot Ren.dat .nil)) .nil (.box rfl .nil) (RenB.tup (.cons (.cons .nil))))<|js (qa ot)<|js (qu ot)<|js (qu ot)<|js (qp (i:=6) zero120)<|js (qo ot ot ty120)<|js (qb ot)<|nt<|cs<|gsc x49.2.1 hj18 (fun hc51 hj18=>?_) fun hc51 hj18=>?_
      ·refine cd mixed (db [9] [6] [] (gu (qn ot ty120))<|da [59] (gu (qC u41 ty120 hz120 (.cons ot .nil)))<|da [60] (gu (qF pl120 zero120 (Fill.cons rfl oS fs_api_Pred_0 (Fill.cons rfl ot fs_api_Pred_3 Fill.nil))))<|da [10] (gu (qa ot))<|da [62] (gu (qa ot))<|da [63,0] (GS.stepG hc51 (qa ot))<|de [63,64] [0] [] (GS.stepG hc51 (qg (σ:=[(0, 0)]) oF (pred_parser_skip_o0_con ([41] : Str) x49.2.2 _ rfl) call222 (.cons ot (Ren.bp rfl) (.cons oS Ren.dat .nil)) .nil (.box (AOC.get rfl) .nil) RenB.dat))<|da [63,65] (gu (op_pickT ot hc51 ot))<|dc [4,61] [2] [] (gu (qo ot ot ty120))<|an)<|jv [4,66] [0,2] ?_
       cases hj18
       cases hm
       exact js (qb ot)<|nt<|ct<|br<|tr<|tr<|JE.retSB hk (.box rfl .nil) (.box rfl .nil) rfl (RvS.cell rfl rfl ty120) (RvS.tmp rfl)
      ·refine cd mixed (db [9] [6] [] (gu (qn ot ty120))<|da [59] (gu (qC u41 ty120 hz120 (.cons ot .nil)))<|da [60] (gu (qF pl120 zero120 (Fill.cons rfl oS fs_api_Pred_0 (Fill.cons rfl ot fs_api_Pred_3 Fill.nil))))<|da [10] (gu (qa ot))<|da [62] (gu (qa ot))<|da [63] (GS.skipG hc51)<|da [63] (GS.skipG hc51)<|da [63] (gu (op_pickF ot hc51 oB))<|dc [4,61] [2] [] (gu (qo ot ot ty120))<|an)<|jv [4,66] [0,2] ?_
       cases hj18
       cases hm
       exact js (qb ot)<|nt<|ct<|br<|tr<|tr<|JE.retSB hk (.box rfl .nil) (.box rfl .nil) rfl (RvS.cell rfl rfl ty120) (RvS.tmp rfl)
     ·cases hj18
      exact ck<|bn<|mt (hK19 _ rfl)
  ·cases hj18
   exact ck<|mt (hK19 _ rfl)
theorem pred_parser_pred_o0_con : ∀ (n : Nat) (a1 : Int) (o0 : pred_parser) (r : (api_Pred × Bool × pred_parser)) (hm : pred_parser_pred_o0 n a1 o0 = some r), SCon Base prog 211 [(0, Box R_pred_parser 282 o0)] [BP 0 0, D (RInt .i64) a1] [(0, Box R_pred_parser 282 r.2.2)] (TUP [D R_api_Pred r.1, D RBool r.2.1]) := by
 intro n
 induction n with
 | zero => intro a1 o0 r hm; rw [pred_parser_pred_o0.eq_1] at hm; cases hm
 | succ n ih =>
  intro a1 o0 r hm
  rw [pred_parser_pred_o0.eq_2] at hm
  refine SI func211 (fun gs=>[(0, BoxAt (IsV (gs 0)) R_pred_parser 282 o0)]) (fun gs=>(.box .nil)) fun w O gs own hk=>?_
  refine sr<|js (qp (i:=2) zero120)<|js (qb oB)<|nt<|sr<|js (qa ot)<|js (qt ot)<|js (qc ot (fp pl282))<|js (qd ot fo_pred_parser_1 ty3)<|js (qk ot oi)<|js (qt ot)<|js (qc ot (fp pl282))<|js (qv ot ot fs_pred_parser_1 ty3)<|nt<|cs<|sr<|js (qa ot)<|js (qh ot oi)<|js (qa ot)<|jg (fun hg1=>qa ot)<|jg (fun hg2=>qt (ow hg2))<|jg (fun hg3=>qc (ow hg3) (fp pl282))<|jg (fun hg4=>qd (ow hg4) fo_pred_parser_1 ty3)<|jg (fun hg5=>qs (ow hg5) oi)<|js (qm ot (fun hk6 => ow hk6))<|nt<|cn ot hm (fun hc7 hm=>?_) fun hc7 hm=>?_
  ·cases hm
   exact sr<|js (qF pl120 zero120 Fill.nil)<|js (qo ot ot ty120)<|js (qb oB)<|nt<|ct<|tr<|JE.retSB hk (.box rfl .nil) (.box rfl .nil) rfl (RvS.cell rfl rfl ty120) (RvS.tmp rfl)
  ·refine ck<|tn<|cs<|cb<|sr<|js (qa ot)<|js (qg (σ:=[(0, 0)]) oF (pred_parser_skip_o0_con ([97, 108, 108] : Str) ({ o0 with nodes_ := IntKind.i64.wrap ((pred_parser.nodes_ o0) + (1 : Int)) }) _ rfl) call222 (.cons ot (Ren.bp rfl) (.cons oS Ren.dat .nil)) .nil (.box rfl .nil) RenB.dat)<|js (qb ot)<|nt<|cn ot hm (fun hc8 hm=>?_) fun hc8 hm=>?_
   ·cases hm
    exact sr<|js (qF pl120 zero120 (Fill.cons rfl oS fs_api_Pred_0 Fill.nil))<|js (qo ot ot ty120)<|js (qb oB)<|nt<|ct<|br<|tr<|JE.retSB hk (.box rfl .nil) (.box rfl .nil) rfl (RvS.cell rfl rfl ty120) (RvS.tmp rfl)
   ·refine sr<|js (qa ot)<|js (qg (σ:=[(0, 0)]) oF (pred_parser_skip_o0_con ([116, 111, 112, 105, 99, 40] : Str) ((pred_parser_skip_o0 ([97, 108, 108] : Str) ({ o0 with nodes_ := IntKind.i64.wrap ((pred_parser.nodes_ o0) + (1 : Int)) })).2) _ rfl) call222 (.cons ot (Ren.bp rfl) (.cons oS Ren.dat .nil)) .nil (.box rfl .nil) RenB.dat)<|js (qb ot)<|nt<|cn ot hm (fun hc9 hm=>?_) fun hc9 hm=>?_
    ·obtain ⟨x10,hx11,hm⟩ :=ob hm
     cases hm
     exact sr<|js (qa ot)<|js (qg (σ:=[(0, 0)]) oF (pred_parser_named_o0_con ([116, 111, 112, 105, 99] : Str) ((pred_parser_skip_o0 ([116, 111, 112, 105, 99, 40] : Str) ((pred_parser_skip_o0 ([97, 108, 108] : Str) ({ o0 with nodes_ := IntKind.i64.wrap ((pred_parser.nodes_ o0) + (1 : Int)) })).2)).2) _ hx11) call223 (.cons ot (Ren.bp rfl) (.cons oS Ren.dat .nil)) .nil (.box rfl .nil) (RenB.tup (.cons (.cons .nil))))<|js (qu ot)<|js (qu ot)<|js (qo ot ot ty120)<|js (qb ot)<|nt<|ct<|br<|tr<|JE.retSB hk (.box rfl .nil) (.box rfl .nil) rfl (RvS.cell rfl rfl ty120) (RvS.tmp rfl)
    ·refine sr<|js (qa ot)<|js (qg (σ:=[(0, 0)]) oF (pred_parser_skip_o0_con ([104, 97, 115, 40] : Str) ((pred_parser_skip_o0 ([116, 111, 112, 105, 99, 40] : Str) ((pred_parser_skip_o0 ([97, 108, 108] : Str) ({ o0 with nodes_ := IntKind.i64.wrap ((pred_parser.nodes_ o0) + (1 : Int)) })).2)).2) _ rfl) call222 (.cons ot (Ren.bp rfl) (.cons oS Ren.dat .nil)) .nil (.box rfl .nil) RenB.dat)<|js (qb ot)<|nt<|cn ot hm (fun hc12 hm=>?_) fun hc12 hm=>?_
     ·obtain ⟨x13,hx14,hm⟩ :=ob hm
      cases hm
      exact sr<|js (qa ot)<|js (qg (σ:=[(0, 0)]) oF (pred_parser_named_o0_con ([104, 97, 115] : Str) ((pred_parser_skip_o0 ([104, 97, 115, 40] : Str) ((pred_parser_skip_o0 ([116, 111, 112, 105, 99, 40] : Str) ((pred_parser_skip_o0 ([97, 108, 108] : Str) ({ o0 with nodes_ := IntKind.i64.wrap ((pred_parser.nodes_ o0) + (1 : Int)) })).2)).2)).2) _ hx14) call223 (.cons ot (Ren.bp rfl) (.cons oS Ren.dat .nil)) .nil (.box rfl .nil) (RenB.tup (.cons (.cons .nil))))<|js (qu ot)<|js (qu ot)<|js (qo ot ot ty120)<|js (qb ot)<|nt<|ct<|br<|tr<|JE.retSB hk (.box rfl .nil) (.box rfl .nil) rfl (RvS.cell rfl rfl ty120) (RvS.tmp rfl)
     ·refine sr<|js (qa ot)<|js (qg (σ:=[(0, 0)]) oF (pred_parser_skip_o0_con ([40] : Str) ((pred_parser_skip_o0 ([104, 97, 115, 40] : Str) ((pred_parser_skip_o0 ([116, 111, 112, 105, 99, 40] : Str) ((pred_parser_skip_o0 ([97, 108, 108] : Str) ({ o0 with nodes_ := IntKind.i64.wrap ((pred_parser.nodes_ o0) + (1 : Int)) })).2)).2)).2) _ rfl) call222 (.cons ot (Ren.bp rfl) (.cons oS Ren.dat .nil)) .nil (.box rfl .nil) RenB.dat)<|js (qb ot)<|nt<|cn ot hm (fun hc15 hm=>?_) fun hc15 hm=>?_
      ·obtain ⟨x16,hx17,hm⟩ :=ob hm
       cases hm
       exact sr<|js (qa ot)<|js (qa ot)<|js (qE ot oi)<|js (qg (σ:=[(0, 0)]) oF (pred_parser_inner_o0_con (pred_parser_pred_o0 n) ih (IntKind.i64.wrap (a1 - (1 : Int))) ((pred_parser_skip_o0 ([40] : Str) ((pred_parser_skip_o0 ([104, 97, 115, 40] : Str) ((pred_parser_skip_o0 ([116, 111, 112, 105, 99, 40] : Str) ((pred_parser_skip_o0 ([97, 108, 108] : Str) ({ o0 with nodes_ := IntKind.i64.wrap ((pred_parser.nodes_ o0) + (1 : Int)) })).2)).2)).2)).2) _ hx17) call224 (.cons ot (Ren.bp rfl) (.cons ot Ren.dat .nil)) .nil (.box rfl .nil) (RenB.tup (.cons (.cons .nil))))<|js (qu ot)<|js (qu ot)<|js (qo ot ot ty120)<|js (qb ot)<|nt<|ct<|br<|tr<|JE.retSB hk (.box rfl .nil) (.box rfl .nil) rfl (RvS.cell rfl rfl ty120) (RvS.tmp rfl)
      ·cases hm
       exact ck<|bn<|tn<|sr<|js (qF pl120 zero120 Fill.nil)<|js (qo ot ot ty120)<|js (qb oB)<|nt<|ct<|JE.retSB hk (.box rfl .nil) (.box rfl .nil) rfl (RvS.cell rfl rfl ty120) (RvS.tmp rfl)
theorem pred_Parse_con (a0) (r) (hm : pred_Parse a0 = some r) : PC 194 [D RStr a0] (TUP [D R_api_Pred r.1,D (RInt .i64) r.2]) := by
 refine PI func194 fun w O=>?_
 unfold pred_Parse at hm
 obtain ⟨x1,hx2,hm⟩ :=ob hm
 obtain ⟨x9,hx10,hm⟩ :=ob hm
 refine sr<|js (qp (i:=1) zero120)<|js (qb oi)<|nt<|sr<|js (qa ot)<|js (qF pl282 zero282 (Fill.cons rfl ot fs_pred_parser_0 Fill.nil))<|js (qp (i:=2) zero282)<|js (qo ot ot ty282)<|nt<|sr<|js (qg (σ:=[(0, 2)]) oF (pred_parser_pred_o0_con FUEL (8 : Int) (⟨a0, 0⟩ : pred_parser) _ hx2) call211 (.cons ot (Ren.bp rfl) (.cons oi Ren.dat .nil)) .nil (.box rfl .nil) (RenB.tup (.cons (.cons .nil))))<|js (qa ot)<|js (qu ot)<|js (qu ot)<|js (qp (i:=3) zero120)<|js (qo ot ot ty120)<|js (qb ot)<|nt<|cs<|sr<|js (qa ot)<|js (qr ot)<|js (qa ot)<|jg (fun hg3=>qc ot (fp pl282))<|jg (fun hg4=>qd (ow hg4) fo_pred_parser_0 ty9)<|jg (fun hg5=>qQ (ow hg5) oS)<|js (qm ot (fun hk6 => ow hk6))<|js (qa ot)<|jg (fun hg7=>qn ot ty120)<|jg (fun hg8=>qe oF (pred_May_con x1.1 _ (of_pos hg8 hx10)) call152 (zc (zo (ow hg8)) zn))<|jg (fun hg11=>qr (ow hg11))<|js (qm ot (fun hk12 => ow hk12))<|nt<|cn ot hm (fun hc13 hm=>?_) fun hc13 hm=>?_
 ·cases hm
  exact sr<|js (qF pl120 zero120 Fill.nil)<|js (qo ot ot ty120)<|js (qb oi)<|nt<|ct<|tr<|JE.retB rfl (RvOK.cell rfl rfl ty120) (RvOK.tmp rfl)
 ·cases hm
  exact ck<|tn<|sr<|js (qn ot ty120)<|js (qo ot ot ty120)<|js (qb oi)<|nt<|ct<|JE.retB rfl (RvOK.cell rfl rfl ty120) (RvOK.tmp rfl)
theorem shelf_eye_where_o0_con (o0) (r) (hm : shelf_eye_where_o0 o0 = some r) : SC 161 [(0,Box R_shelf_eye 97 o0)] [BP 0 0] [(0,Box R_shelf_eye 97 r.2)] (D R_api_Pred r.1) := by
 refine SI func161 (fun gs=>[(0, BoxAt (IsV (gs 0)) R_shelf_eye 97 o0)]) (fun gs=>(.box .nil)) fun w O gs own hk=>?_
 unfold shelf_eye_where_o0 at hm
 obtain ⟨x1,hx2,hm⟩ :=ob hm
 obtain ⟨x3,hx4,hm⟩ :=ob hm
 obtain ⟨x5,hx6,hm⟩ :=ob hm
 refine sr<|js (qp (i:=2) zero120)<|nt<|sr<|js (qa ot)<|js (qg (σ:=[(0, 0)]) oF (shelf_eye_text_o0_con o0 _ hx2) call107 (.cons ot (Ren.bp rfl) .nil) .nil (.box rfl .nil) RenB.dat)<|js (qe oF (pred_Parse_con x1.1 _ hx4) call194 (ze zn))<|js (qa ot)<|js (qu ot)<|js (qu ot)<|js (qp (i:=3) zero120)<|js (qo ot ot ty120)<|js (qb ot)<|nt<|cs<|sr<|js (qa ot)<|js (qa ot)<|js (qy ot oi)<|js (qg (σ:=[(0, 0)]) oF (shelf_eye_past_o0_con (0 : Int) (x3.2 == (0 : Int)) x1.2 _ hx6) call158 (.cons ot (Ren.bp rfl) (.cons oi Ren.dat (.cons ot Ren.dat .nil))) .nil (.box rfl .nil) RenB.dat)<|js (qr ot)<|nt<|cn ot hm (fun hc7 hm=>?_) fun hc7 hm=>?_
 ·cases hm
  exact sr<|js (qF pl120 zero120 Fill.nil)<|js (qo ot ot ty120)<|nt<|ct<|tr<|JE.retSA hk (.box rfl .nil) (.box rfl .nil) rfl (RvS.cell rfl rfl ty120)
 ·cases hm
  exact ck<|tn<|sr<|js (qn ot ty120)<|js (qo ot ot ty120)<|nt<|ct<|JE.retSA hk (.box rfl .nil) (.box rfl .nil) rfl (RvS.cell rfl rfl ty120)
theorem shelf_some_api_Pred_o0__shelf_eye_where_o0_con (o0) (r) (hm : shelf_some_api_Pred_o0__shelf_eye_where_o0 o0 = some r) : SC 160 [(0,Box R_shelf_eye 97 o0)] [BP 0 0,BM 161 [BP 0 0]] [(0,Box R_shelf_eye 97 r.2)] (D (RSlice R_api_Pred) r.1) := by
 refine SI func160 (fun gs=>[(0, BoxAt (IsV (gs 0)) R_shelf_eye 97 o0)]) (fun gs=>(.box .nil)) fun w O gs own hk=>?_
 unfold shelf_some_api_Pred_o0__shelf_eye_where_o0 at hm
 obtain ⟨x1,hx2,hm⟩ :=ob hm
 obtain ⟨v4,hj5,hm⟩ :=ob hm
 refine sr<|js (qb (Opd.nil (R := R_api_Pred)))<|nt<|sr<|js (qa ot)<|js (qg (σ:=[(0, 0)]) oF (shelf_eye_id_o0_con o0 _ hx2) call109 (.cons ot (Ren.bp rfl) .nil) .nil (.box rfl .nil) RenB.dat)<|js (qb ot)<|nt<|cs<|sr<|js (qa ot)<|js (qa ot)<|js (qt ot)<|js (qc ot (fp pl97))<|js (qd ot fo_shelf_eye_0 ty9)<|js (qD ot u9)<|js (qA ot u3 u46)<|js (qs ot ot)<|nt<|JC.join [(0, BP 0 0), (1, BM 161 [BP 0 0]), (5, D (RInt .u64) x1.1)] [(0, BoxAt (IsV (gs 0)) R_shelf_eye 97 v4)] ?_ (fun _ hK6=>?_)
 ·obtain ⟨⟨v31,v32⟩,hl33,hm⟩ :=ob hm
  refine tn<|sr<|js (qK (j:=2) (R:=R_api_Pred) (E:=120) (.inr rfl))<|nt<|cs<|JC.join [(6, OS 2)] [(0, BoxAt (IsV (gs 0)) R_shelf_eye 97 v31), (2, OwnSl R_api_Pred 120 v32)] ?_ (fun _ hK34=>?_)
  ·refine tn<|sr<|js (qa ot)<|js (qb ot)<|nt<|ct ?_
   refine JE.imp (Imp.frz 2 (ts := [6, 36, 4]) rfl (.cons rfl (.cons rfl (.cons rfl .nil)))) ?_
   cases hm
   exact JE.retSA hk (.box rfl .nil) (.box rfl .nil) rfl (RvS.tmp rfl)
  ·refine cb<|JC.loop _ (fun s40=>[(0, BP 0 0), (1, BM 161 [BP 0 0]), (5, D (RInt .u64) s40.1), (6, OS 2)]) (fun s40=>[(0, BoxAt (IsV (gs 0)) R_shelf_eye 97 s40.2.1), (2, OwnSl R_api_Pred 120 s40.2.2)]) _ ?_ _ hl33 ml
   intro s40 r39 _ hs36 hB37 hE38
   obtain ⟨v18, v19, v20⟩ := s40
   try dsimp only at hs36
   refine cs<|sr<|js (qa ot)<|js (qs ot oi)<|js (qa ot)<|jg (fun hg42=>qa ot)<|jg (fun hg43=>qt (ow hg43))<|jg (fun hg44=>qc (ow hg44) (fp pl97))<|jg (fun hg45=>qd (ow hg45) fo_shelf_eye_1 ty4)<|jg (fun hg46=>qr (ow hg46))<|js (ql ot (fun hk47 => ow hk47))<|nt<|cn ot hs36 (fun hc48 hs36=>?_) fun hc48 hs36=>?_
   ·obtain ⟨x49,hx50,hs36⟩ :=ob hs36
    obtain ⟨hb51,hs36⟩ :=og hs36
    cases hs36
    refine ck<|tn<|cs<|cb<|cr<|js (qa ot)<|js (qa ot)<|js (qH (σ:=[(0, 0)]) ot (shelf_eye_where_o0_con v19 _ hx50) call161 .nil (.cons (Ren.bp rfl) .nil) (.box rfl .nil) RenB.dat)<|js (qC u41 ty120 hz120 (.cons ot .nil))<|js (qB (j:=5) ot ot u41 sl120 hb51)<|js (qb ot)<|jn<|bn<|tn<|cr<|js (qa ot)<|js (qE ot oi)<|js (qb ot)<|jn ?_
    exact JE.meetR [(0, 0), (2, 5)] (hB37 _ rfl) (by decide) (by decide) (CVR.cons (t := 0) rfl (Ren.bp rfl) (CVR.cons (t := 1) rfl (Ren.bm (.cons (Ren.bp rfl) .nil)) (CVR.cons (t := 5) rfl Ren.dat (CVR.cons (t := 6) rfl (Ren.os rfl) CVR.nil)))) (OVR.cons (i := 0) rfl RenO.box (OVR.cons (i := 5) rfl RenO.sl OVR.nil))
   ·cases hs36
    cases (hE38 _ rfl)
    exact cx<|tx<|tx<|bx<|mt hK34
 ·refine cn ot hj5 (fun hc53 hj5=>?_) fun hc53 hj5=>?_
  ·cases hj5
   exact cr<|js (qa ot)<|js (qt ot)<|js (qc ot (fp pl97))<|js (qv ot oB fs_shelf_eye_1 ty4)<|jn<|mt hK6
  ·cases hj5
   exact ck<|mt hK6
theorem shelf_eye_def_o0_con (o0) (r) (hm : shelf_eye_def_o0 o0 = some r) : SC 110 [(0,Box R_shelf_eye 97 o0)] [BP 0 0] [(0,Box R_shelf_eye 97 r.2)] (D R_api_Def r.1) := by
 refine SI func110 (fun gs=>[(0, BoxAt (IsV (gs 0)) R_shelf_eye 97 o0)]) (fun gs=>(.box .nil)) fun w O gs own hk=>?_
 unfold shelf_eye_def_o0 at hm
 obtain ⟨x1,hx2,hm⟩ :=ob hm
 obtain ⟨x3,hx4,hm⟩ :=ob hm
 obtain ⟨x5,hx6,hm⟩ :=ob hm
 obtain ⟨x7,hx8,hm⟩ :=ob hm
 obtain ⟨x9,hx10,hm⟩ :=ob hm
 obtain ⟨x11,hx12,hm⟩ :=ob hm
 obtain ⟨x13,hx14,hm⟩ :=ob hm
 obtain ⟨x15,hx16,hm⟩ :=ob hm
 cases hm
 exact sr<|js (qp (i:=2) zero45)<|nt<|sr<|js (qp (i:=3) zero45)<|nt<|sr<|js (qa ot)<|js (qg (σ:=[(0, 0)]) oF (shelf_eye_text_o0_con o0 _ hx2) call107 (.cons ot (Ren.bp rfl) .nil) .nil (.box rfl .nil) RenB.dat)<|js (qc ot (fp pl45))<|js (qv ot ot fs_api_Def_0 ty9)<|nt<|sr<|js (qa ot)<|js (qa ot)<|js (qG (Caps.cons ot (Caps.nil (xs := []))))<|js (qg (σ:=[(0, 0)]) oF (shelf_some_string_o0__shelf_eye_text_o0_con x1.2 _ hx4) call138 (.cons ot (Ren.bp rfl) (.cons ot (Ren.bm (.cons (Ren.bp rfl) .nil)) .nil)) .nil (.box rfl .nil) RenB.dat)<|js (qc ot (fp pl45))<|js (qv ot ot fs_api_Def_1 ty40)<|nt<|sr<|js (qa ot)<|js (qa ot)<|js (qG (Caps.cons ot (Caps.nil (xs := []))))<|js (qg (σ:=[(0, 0)]) oF (shelf_some_api_Pred_o0__shelf_eye_where_o0_con x3.2 _ hx6) call160 (.cons ot (Ren.bp rfl) (.cons ot (Ren.bm (.cons (Ren.bp rfl) .nil)) .nil)) .nil (.box rfl .nil) RenB.dat)<|js (qc ot (fp pl45))<|js (qv ot ot fs_api_Def_2 ty41)<|nt<|sr<|js (qa ot)<|js (qg (σ:=[(0, 0)]) oF (shelf_eye_text_o0_con x5.2 _ hx8) call107 (.cons ot (Ren.bp rfl) .nil) .nil (.box rfl .nil) RenB.dat)<|js (qc ot (fp pl45))<|js (qv ot ot fs_api_Def_3 ty9)<|nt<|sr<|js (qa ot)<|js (qg (σ:=[(0, 0)]) oF (shelf_eye_text_o0_con x7.2 _ hx10) call107 (.cons ot (Ren.bp rfl) .nil) .nil (.box rfl .nil) RenB.dat)<|js (qc ot (fp pl45))<|js (qc ot (fp pl43))<|js (qv ot ot (FieldSet.comp fo_api_Def_4 fs_api_Def_4 fs_api_Join_0) ty9)<|nt<|sr<|js (qa ot)<|js (qg (σ:=[(0, 0)]) oF (shelf_eye_number_o0_con x9.2 _ hx12) call83 (.cons ot (Ren.bp rfl) .nil) .nil (.box rfl .nil) RenB.dat)<|js (qc ot (fp pl45))<|js (qc ot (fp pl43))<|js (qv ot ot (FieldSet.comp fo_api_Def_4 fs_api_Def_4 fs_api_Join_1) ty3)<|nt<|sr<|js (qa ot)<|js (qg (σ:=[(0, 0)]) oF (shelf_eye_number_o0_con x11.2 _ hx14) call83 (.cons ot (Ren.bp rfl) .nil) .nil (.box rfl .nil) RenB.dat)<|js (qc ot (fp pl45))<|js (qc ot (fp pl43))<|js (qv ot ot (FieldSet.comp fo_api_Def_4 fs_api_Def_4 fs_api_Join_2) ty3)<|nt<|sr<|js (qa ot)<|js (qg (σ:=[(0, 0)]) oF (shelf_eye_number_o0_con x13.2 _ hx16) call83 (.cons ot (Ren.bp rfl) .nil) .nil (.box rfl .nil) RenB.dat)<|js (qc ot (fp pl45))<|js (qc ot (fp pl43))<|js (qv ot ot (FieldSet.comp fo_api_Def_4 fs_api_Def_4 fs_api_Join_3) ty3)<|nt<|sr<|js (qn ot ty45)<|js (qo ot ot ty45)<|nt<|ct<|JE.retSA hk (.box rfl .nil) (.box rfl .nil) rfl (RvS.cell rfl rfl ty45)
theorem shelf_eye_off_o0_con (o0) (r) (hm : shelf_eye_off_o0 o0 = some r) : SC 140 [(0,Box R_shelf_eye 97 o0)] [BP 0 0] [(0,Box R_shelf_eye 97 r.2)] (D R_api_Off r.1) := by
 refine SI func140 (fun gs=>[(0, BoxAt (IsV (gs 0)) R_shelf_eye 97 o0)]) (fun gs=>(.box .nil)) fun w O gs own hk=>?_
 unfold shelf_eye_off_o0 at hm
 obtain ⟨x1,hx2,hm⟩ :=ob hm
 obtain ⟨x3,hx4,hm⟩ :=ob hm
 cases hm
 exact sr<|js (qp (i:=2) zero123)<|nt<|sr<|js (qp (i:=3) zero123)<|nt<|sr<|js (qa ot)<|js (qg (σ:=[(0, 0)]) oF (shelf_eye_text_o0_con o0 _ hx2) call107 (.cons ot (Ren.bp rfl) .nil) .nil (.box rfl .nil) RenB.dat)<|js (qc ot (fp pl123))<|js (qv ot ot fs_api_Off_0 ty9)<|nt<|sr<|js (qa ot)<|js (qg (σ:=[(0, 0)]) oF (shelf_eye_number_o0_con x1.2 _ hx4) call83 (.cons ot (Ren.bp rfl) .nil) .nil (.box rfl .nil) RenB.dat)<|js (qc ot (fp pl123))<|js (qv ot ot fs_api_Off_1 ty3)<|nt<|sr<|js (qn ot ty123)<|js (qo ot ot ty123)<|nt<|ct<|JE.retSA hk (.box rfl .nil) (.box rfl .nil) rfl (RvS.cell rfl rfl ty123)
theorem shelf_some_api_Off_o0__shelf_eye_off_o0_con (o0) (r) (hm : shelf_some_api_Off_o0__shelf_eye_off_o0 o0 = some r) : SC 139 [(0,Box R_shelf_eye 97 o0)] [BP 0 0,BM 140 [BP 0 0]] [(0,Box R_shelf_eye 97 r.2)] (D (RSlice R_api_Off) r.1) := by
 refine SI func139 (fun gs=>[(0, BoxAt (IsV (gs 0)) R_shelf_eye 97 o0)]) (fun gs=>(.box .nil)) fun w O gs own hk=>?_
 unfold shelf_some_api_Off_o0__shelf_eye_off_o0 at hm
 obtain ⟨x1,hx2,hm⟩ :=ob hm
 obtain ⟨v4,hj5,hm⟩ :=ob hm
 refine sr<|js (qb (Opd.nil (R := R_api_Off)))<|nt<|sr<|js (qa ot)<|js (qg (σ:=[(0, 0)]) oF (shelf_eye_id_o0_con o0 _ hx2) call109 (.cons ot (Ren.bp rfl) .nil) .nil (.box rfl .nil) RenB.dat)<|js (qb ot)<|nt<|cs<|sr<|js (qa ot)<|js (qa ot)<|js (qt ot)<|js (qc ot (fp pl97))<|js (qd ot fo_shelf_eye_0 ty9)<|js (qD ot u9)<|js (qA ot u3 u46)<|js (qs ot ot)<|nt<|JC.join [(0, BP 0 0), (1, BM 140 [BP 0 0]), (5, D (RInt .u64) x1.1)] [(0, BoxAt (IsV (gs 0)) R_shelf_eye 97 v4)] ?_ (fun _ hK6=>?_)
 ·obtain ⟨⟨v31,v32⟩,hl33,hm⟩ :=ob hm
  refine tn<|sr<|js (qK (j:=2) (R:=R_api_Off) (E:=123) (.inr rfl))<|nt<|cs<|JC.join [(6, OS 2)] [(0, BoxAt (IsV (gs 0)) R_shelf_eye 97 v31), (2, OwnSl R_api_Off 123 v32)] ?_ (fun _ hK34=>?_)
  ·refine tn<|sr<|js (qa ot)<|js (qb ot)<|nt<|ct ?_
   refine JE.imp (Imp.frz 2 (ts := [6, 36, 4]) rfl (.cons rfl (.cons rfl (.cons rfl .nil)))) ?_
   cases hm
   exact JE.retSA hk (.box rfl .nil) (.box rfl .nil) rfl (RvS.tmp rfl)
  ·refine cb<|JC.loop _ (fun s40=>[(0, BP 0 0), (1, BM 140 [BP 0 0]), (5, D (RInt .u64) s40.1), (6, OS 2)]) (fun s40=>[(0, BoxAt (IsV (gs 0)) R_shelf_eye 97 s40.2.1), (2, OwnSl R_api_Off 123 s40.2.2)]) _ ?_ _ hl33 ml
   intro s40 r39 _ hs36 hB37 hE38
   obtain ⟨v18, v19, v20⟩ := s40
   try dsimp only at hs36
   refine cs<|sr<|js (qa ot)<|js (qs ot oi)<|js (qa ot)<|jg (fun hg42=>qa ot)<|jg (fun hg43=>qt (ow hg43))<|jg (fun hg44=>qc (ow hg44) (fp pl97))<|jg (fun hg45=>qd (ow hg45) fo_shelf_eye_1 ty4)<|jg (fun hg46=>qr (ow hg46))<|js (ql ot (fun hk47 => ow hk47))<|nt<|cn ot hs36 (fun hc48 hs36=>?_) fun hc48 hs36=>?_
   ·obtain ⟨x49,hx50,hs36⟩ :=ob hs36
    obtain ⟨hb51,hs36⟩ :=og hs36
    cases hs36
    refine ck<|tn<|cs<|cb<|cr<|js (qa ot)<|js (qa ot)<|js (qH (σ:=[(0, 0)]) ot (shelf_eye_off_o0_con v19 _ hx50) call140 .nil (.cons (Ren.bp rfl) .nil) (.box rfl .nil) RenB.dat)<|js (qC u63 ty123 hz123 (.cons ot .nil))<|js (qB (j:=5) ot ot u63 sl123 hb51)<|js (qb ot)<|jn<|bn<|tn<|cr<|js (qa ot)<|js (qE ot oi)<|js (qb ot)<|jn ?_
    exact JE.meetR [(0, 0), (2, 5)] (hB37 _ rfl) (by decide) (by decide) (CVR.cons (t := 0) rfl (Ren.bp rfl) (CVR.cons (t := 1) rfl (Ren.bm (.cons (Ren.bp rfl) .nil)) (CVR.cons (t := 5) rfl Ren.dat (CVR.cons (t := 6) rfl (Ren.os rfl) CVR.nil)))) (OVR.cons (i := 0) rfl RenO.box (OVR.cons (i := 5) rfl RenO.sl OVR.nil))
   ·cases hs36
    cases (hE38 _ rfl)
    exact cx<|tx<|tx<|bx<|mt hK34
 ·refine cn ot hj5 (fun hc53 hj5=>?_) fun hc53 hj5=>?_
  ·cases hj5
   exact cr<|js (qa ot)<|js (qt ot)<|js (qc ot (fp pl97))<|js (qv ot oB fs_shelf_eye_1 ty4)<|jn<|mt hK6
  ·cases hj5
   exact ck<|mt hK6
theorem shelf_eye_key_o0_con (o0) (r) (hm : shelf_eye_key_o0 o0 = some r) : SC 184 [(0,Box R_shelf_eye 97 o0)] [BP 0 0] [(0,Box R_shelf_eye 97 r.2)] (D R_api_Value r.1) := by
 refine SI func184 (fun gs=>[(0, BoxAt (IsV (gs 0)) R_shelf_eye 97 o0)]) (fun gs=>(.box .nil)) fun w O gs own hk=>?_
 unfold shelf_eye_key_o0 at hm
 obtain ⟨x1,hx2,hm⟩ :=ob hm
 obtain ⟨x3,hx4,hm⟩ :=ob hm
 refine sr<|js (qp (i:=2) zero118)<|nt<|sr<|js (qa ot)<|js (qt ot)<|js (qc ot (fp pl97))<|js (qd ot fo_shelf_eye_0 ty9)<|js (qe oF (val_Take_con (shelf_eye.rest_ o0) _ hx2) call202 (ze zn))<|js (qa ot)<|js (qu ot)<|js (qu ot)<|js (qu ot)<|js (qp (i:=3) zero118)<|js (qo ot ot ty118)<|js (qb ot)<|js (qb ot)<|nt<|cs<|sr<|js (qa ot)<|js (qa ot)<|js (qa ot)<|js (qy ot oi)<|js (qg (σ:=[(0, 0)]) oF (shelf_eye_past_o0_con x1.2.1 (x1.2.2 == (0 : Int)) o0 _ hx4) call158 (.cons ot (Ren.bp rfl) (.cons ot Ren.dat (.cons ot Ren.dat .nil))) .nil (.box rfl .nil) RenB.dat)<|js (qr ot)<|nt<|cn ot hm (fun hc5 hm=>?_) fun hc5 hm=>?_
 ·cases hm
  exact sr<|js (qF pl118 zero118 Fill.nil)<|js (qo ot ot ty118)<|nt<|ct<|tr<|JE.retSA hk (.box rfl .nil) (.box rfl .nil) rfl (RvS.cell rfl rfl ty118)
 ·cases hm
  exact ck<|tn<|sr<|js (qn ot ty118)<|js (qo ot ot ty118)<|nt<|ct<|JE.retSA hk (.box rfl .nil) (.box rfl .nil) rfl (RvS.cell rfl rfl ty118)
theorem shelf_eye_kept_o0_con (o0) (r) (hm : shelf_eye_kept_o0 o0 = some r) : SC 186 [(0,Box R_shelf_eye 97 o0)] [BP 0 0] [(0,Box R_shelf_eye 97 r.2)] (D R_api_Kept r.1) := by
 refine SI func186 (fun gs=>[(0, BoxAt (IsV (gs 0)) R_shelf_eye 97 o0)]) (fun gs=>(.box .nil)) fun w O gs own hk=>?_
 unfold shelf_eye_kept_o0 at hm
 obtain ⟨x1,hx2,hm⟩ :=ob hm
 obtain ⟨x3,hx4,hm⟩ :=ob hm
 obtain ⟨x5,hx6,hm⟩ :=ob hm
 cases hm
 exact sr<|js (qp (i:=2) zero153)<|nt<|sr<|js (qp (i:=3) zero153)<|nt<|sr<|js (qa ot)<|js (qg (σ:=[(0, 0)]) oF (shelf_eye_number_o0_con o0 _ hx2) call83 (.cons ot (Ren.bp rfl) .nil) .nil (.box rfl .nil) RenB.dat)<|js (qc ot (fp pl153))<|js (qv ot ot fs_api_Kept_0 ty3)<|nt<|sr<|js (qa ot)<|js (qg (σ:=[(0, 0)]) oF (shelf_eye_id_o0_con x1.2 _ hx4) call109 (.cons ot (Ren.bp rfl) .nil) .nil (.box rfl .nil) RenB.dat)<|js (qc ot (fp pl153))<|js (qv ot ot fs_api_Kept_1 ty46)<|nt<|sr<|js (qa ot)<|js (qg (σ:=[(0, 0)]) oF (shelf_eye_number_o0_con x3.2 _ hx6) call83 (.cons ot (Ren.bp rfl) .nil) .nil (.box rfl .nil) RenB.dat)<|js (qc ot (fp pl153))<|js (qv ot ot fs_api_Kept_2 ty3)<|nt<|sr<|js (qn ot ty153)<|js (qo ot ot ty153)<|nt<|ct<|JE.retSA hk (.box rfl .nil) (.box rfl .nil) rfl (RvS.cell rfl rfl ty153)
theorem shelf_some_api_Kept_o0__shelf_eye_kept_o0_con (o0) (r) (hm : shelf_some_api_Kept_o0__shelf_eye_kept_o0 o0 = some r) : SC 185 [(0,Box R_shelf_eye 97 o0)] [BP 0 0,BM 186 [BP 0 0]] [(0,Box R_shelf_eye 97 r.2)] (D (RSlice R_api_Kept) r.1) := by
 refine SI func185 (fun gs=>[(0, BoxAt (IsV (gs 0)) R_shelf_eye 97 o0)]) (fun gs=>(.box .nil)) fun w O gs own hk=>?_
 unfold shelf_some_api_Kept_o0__shelf_eye_kept_o0 at hm
 obtain ⟨x1,hx2,hm⟩ :=ob hm
 obtain ⟨v4,hj5,hm⟩ :=ob hm
 refine sr<|js (qb (Opd.nil (R := R_api_Kept)))<|nt<|sr<|js (qa ot)<|js (qg (σ:=[(0, 0)]) oF (shelf_eye_id_o0_con o0 _ hx2) call109 (.cons ot (Ren.bp rfl) .nil) .nil (.box rfl .nil) RenB.dat)<|js (qb ot)<|nt<|cs<|sr<|js (qa ot)<|js (qa ot)<|js (qt ot)<|js (qc ot (fp pl97))<|js (qd ot fo_shelf_eye_0 ty9)<|js (qD ot u9)<|js (qA ot u3 u46)<|js (qs ot ot)<|nt<|JC.join [(0, BP 0 0), (1, BM 186 [BP 0 0]), (5, D (RInt .u64) x1.1)] [(0, BoxAt (IsV (gs 0)) R_shelf_eye 97 v4)] ?_ (fun _ hK6=>?_)
 ·obtain ⟨⟨v31,v32⟩,hl33,hm⟩ :=ob hm
  refine tn<|sr<|js (qK (j:=2) (R:=R_api_Kept) (E:=153) (.inr rfl))<|nt<|cs<|JC.join [(6, OS 2)] [(0, BoxAt (IsV (gs 0)) R_shelf_eye 97 v31), (2, OwnSl R_api_Kept 153 v32)] ?_ (fun _ hK34=>?_)
  ·refine tn<|sr<|js (qa ot)<|js (qb ot)<|nt<|ct ?_
   refine JE.imp (Imp.frz 2 (ts := [6, 36, 4]) rfl (.cons rfl (.cons rfl (.cons rfl .nil)))) ?_
   cases hm
   exact JE.retSA hk (.box rfl .nil) (.box rfl .nil) rfl (RvS.tmp rfl)
  ·refine cb<|JC.loop _ (fun s40=>[(0, BP 0 0), (1, BM 186 [BP 0 0]), (5, D (RInt .u64) s40.1), (6, OS 2)]) (fun s40=>[(0, BoxAt (IsV (gs 0)) R_shelf_eye 97 s40.2.1), (2, OwnSl R_api_Kept 153 s40.2.2)]) _ ?_ _ hl33 ml
   intro s40 r39 _ hs36 hB37 hE38
   obtain ⟨v18, v19, v20⟩ := s40
   try dsimp only at hs36
   refine cs<|sr<|js (qa ot)<|js (qs ot oi)<|js (qa ot)<|jg (fun hg42=>qa ot)<|jg (fun hg43=>qt (ow hg43))<|jg (fun hg44=>qc (ow hg44) (fp pl97))<|jg (fun hg45=>qd (ow hg45) fo_shelf_eye_1 ty4)<|jg (fun hg46=>qr (ow hg46))<|js (ql ot (fun hk47 => ow hk47))<|nt<|cn ot hs36 (fun hc48 hs36=>?_) fun hc48 hs36=>?_
   ·obtain ⟨x49,hx50,hs36⟩ :=ob hs36
    obtain ⟨hb51,hs36⟩ :=og hs36
    cases hs36
    refine ck<|tn<|cs<|cb<|cr<|js (qa ot)<|js (qa ot)<|js (qH (σ:=[(0, 0)]) ot (shelf_eye_kept_o0_con v19 _ hx50) call186 .nil (.cons (Ren.bp rfl) .nil) (.box rfl .nil) RenB.dat)<|js (qC u125 ty153 hz153 (.cons ot .nil))<|js (qB (j:=5) ot ot u125 sl153 hb51)<|js (qb ot)<|jn<|bn<|tn<|cr<|js (qa ot)<|js (qE ot oi)<|js (qb ot)<|jn ?_
    exact JE.meetR [(0, 0), (2, 5)] (hB37 _ rfl) (by decide) (by decide) (CVR.cons (t := 0) rfl (Ren.bp rfl) (CVR.cons (t := 1) rfl (Ren.bm (.cons (Ren.bp rfl) .nil)) (CVR.cons (t := 5) rfl Ren.dat (CVR.cons (t := 6) rfl (Ren.os rfl) CVR.nil)))) (OVR.cons (i := 0) rfl RenO.box (OVR.cons (i := 5) rfl RenO.sl OVR.nil))
   ·cases hs36
    cases (hE38 _ rfl)
    exact cx<|tx<|tx<|bx<|mt hK34
 ·refine cn ot hj5 (fun hc53 hj5=>?_) fun hc53 hj5=>?_
  ·cases hj5
   exact cr<|js (qa ot)<|js (qt ot)<|js (qc ot (fp pl97))<|js (qv ot oB fs_shelf_eye_1 ty4)<|jn<|mt hK6
  ·cases hj5
   exact ck<|mt hK6
theorem shelf_eye_inst_o0_con (o0) (r) (hm : shelf_eye_inst_o0 o0 = some r) : SC 142 [(0,Box R_shelf_eye 97 o0)] [BP 0 0] [(0,Box R_shelf_eye 97 r.2)] (D R_api_Inst r.1) := by
 refine SI func142 (fun gs=>[(0, BoxAt (IsV (gs 0)) R_shelf_eye 97 o0)]) (fun gs=>(.box .nil)) fun w O gs own hk=>?_
 unfold shelf_eye_inst_o0 at hm
 obtain ⟨x1,hx2,hm⟩ :=ob hm
 obtain ⟨x3,hx4,hm⟩ :=ob hm
 cases hm
 exact sr<|js (qp (i:=2) zero127)<|nt<|sr<|js (qp (i:=3) zero127)<|nt<|sr<|js (qa ot)<|js (qg (σ:=[(0, 0)]) oF (shelf_eye_key_o0_con o0 _ hx2) call184 (.cons ot (Ren.bp rfl) .nil) .nil (.box rfl .nil) RenB.dat)<|js (qc ot (fp pl127))<|js (qv ot ot fs_api_Inst_0 ty118)<|nt<|sr<|js (qa ot)<|js (qa ot)<|js (qG (Caps.cons ot (Caps.nil (xs := []))))<|js (qg (σ:=[(0, 0)]) oF (shelf_some_api_Kept_o0__shelf_eye_kept_o0_con x1.2 _ hx4) call185 (.cons ot (Ren.bp rfl) (.cons ot (Ren.bm (.cons (Ren.bp rfl) .nil)) .nil)) .nil (.box rfl .nil) RenB.dat)<|js (qc ot (fp pl127))<|js (qv ot ot fs_api_Inst_1 ty125)<|nt<|sr<|js (qn ot ty127)<|js (qo ot ot ty127)<|nt<|ct<|JE.retSA hk (.box rfl .nil) (.box rfl .nil) rfl (RvS.cell rfl rfl ty127)
theorem shelf_some_api_Inst_o0__shelf_eye_inst_o0_con (o0) (r) (hm : shelf_some_api_Inst_o0__shelf_eye_inst_o0 o0 = some r) : SC 141 [(0,Box R_shelf_eye 97 o0)] [BP 0 0,BM 142 [BP 0 0]] [(0,Box R_shelf_eye 97 r.2)] (D (RSlice R_api_Inst) r.1) := by
 refine SI func141 (fun gs=>[(0, BoxAt (IsV (gs 0)) R_shelf_eye 97 o0)]) (fun gs=>(.box .nil)) fun w O gs own hk=>?_
 unfold shelf_some_api_Inst_o0__shelf_eye_inst_o0 at hm
 obtain ⟨x1,hx2,hm⟩ :=ob hm
 obtain ⟨v4,hj5,hm⟩ :=ob hm
 refine sr<|js (qb (Opd.nil (R := R_api_Inst)))<|nt<|sr<|js (qa ot)<|js (qg (σ:=[(0, 0)]) oF (shelf_eye_id_o0_con o0 _ hx2) call109 (.cons ot (Ren.bp rfl) .nil) .nil (.box rfl .nil) RenB.dat)<|js (qb ot)<|nt<|cs<|sr<|js (qa ot)<|js (qa ot)<|js (qt ot)<|js (qc ot (fp pl97))<|js (qd ot fo_shelf_eye_0 ty9)<|js (qD ot u9)<|js (qA ot u3 u46)<|js (qs ot ot)<|nt<|JC.join [(0, BP 0 0), (1, BM 142 [BP 0 0]), (5, D (RInt .u64) x1.1)] [(0, BoxAt (IsV (gs 0)) R_shelf_eye 97 v4)] ?_ (fun _ hK6=>?_)
 ·obtain ⟨⟨v31,v32⟩,hl33,hm⟩ :=ob hm
  refine tn<|sr<|js (qK (j:=2) (R:=R_api_Inst) (E:=127) (.inr rfl))<|nt<|cs<|JC.join [(6, OS 2)] [(0, BoxAt (IsV (gs 0)) R_shelf_eye 97 v31), (2, OwnSl R_api_Inst 127 v32)] ?_ (fun _ hK34=>?_)
  ·refine tn<|sr<|js (qa ot)<|js (qb ot)<|nt<|ct ?_
   refine JE.imp (Imp.frz 2 (ts := [6, 36, 4]) rfl (.cons rfl (.cons rfl (.cons rfl .nil)))) ?_
   cases hm
   exact JE.retSA hk (.box rfl .nil) (.box rfl .nil) rfl (RvS.tmp rfl)
  ·refine cb<|JC.loop _ (fun s40=>[(0, BP 0 0), (1, BM 142 [BP 0 0]), (5, D (RInt .u64) s40.1), (6, OS 2)]) (fun s40=>[(0, BoxAt (IsV (gs 0)) R_shelf_eye 97 s40.2.1), (2, OwnSl R_api_Inst 127 s40.2.2)]) _ ?_ _ hl33 ml
   intro s40 r39 _ hs36 hB37 hE38
   obtain ⟨v18, v19, v20⟩ := s40
   try dsimp only at hs36
   refine cs<|sr<|js (qa ot)<|js (qs ot oi)<|js (qa ot)<|jg (fun hg42=>qa ot)<|jg (fun hg43=>qt (ow hg43))<|jg (fun hg44=>qc (ow hg44) (fp pl97))<|jg (fun hg45=>qd (ow hg45) fo_shelf_eye_1 ty4)<|jg (fun hg46=>qr (ow hg46))<|js (ql ot (fun hk47 => ow hk47))<|nt<|cn ot hs36 (fun hc48 hs36=>?_) fun hc48 hs36=>?_
   ·obtain ⟨x49,hx50,hs36⟩ :=ob hs36
    obtain ⟨hb51,hs36⟩ :=og hs36
    cases hs36
    refine ck<|tn<|cs<|cb<|cr<|js (qa ot)<|js (qa ot)<|js (qH (σ:=[(0, 0)]) ot (shelf_eye_inst_o0_con v19 _ hx50) call142 .nil (.cons (Ren.bp rfl) .nil) (.box rfl .nil) RenB.dat)<|js (qC u64 ty127 hz127 (.cons ot .nil))<|js (qB (j:=5) ot ot u64 sl127 hb51)<|js (qb ot)<|jn<|bn<|tn<|cr<|js (qa ot)<|js (qE ot oi)<|js (qb ot)<|jn ?_
    exact JE.meetR [(0, 0), (2, 5)] (hB37 _ rfl) (by decide) (by decide) (CVR.cons (t := 0) rfl (Ren.bp rfl) (CVR.cons (t := 1) rfl (Ren.bm (.cons (Ren.bp rfl) .nil)) (CVR.cons (t := 5) rfl Ren.dat (CVR.cons (t := 6) rfl (Ren.os rfl) CVR.nil)))) (OVR.cons (i := 0) rfl RenO.box (OVR.cons (i := 5) rfl RenO.sl OVR.nil))
   ·cases hs36
    cases (hE38 _ rfl)
    exact cx<|tx<|tx<|bx<|mt hK34
 ·refine cn ot hj5 (fun hc53 hj5=>?_) fun hc53 hj5=>?_
  ·cases hj5
   exact cr<|js (qa ot)<|js (qt ot)<|js (qc ot (fp pl97))<|js (qv ot oB fs_shelf_eye_1 ty4)<|jn<|mt hK6
  ·cases hj5
   exact ck<|mt hK6
theorem shelf_eye_sub_o0_con (o0) (r) (hm : shelf_eye_sub_o0 o0 = some r) : SC 89 [(0,Box R_shelf_eye 97 o0)] [BP 0 0] [(0,Box R_shelf_eye 97 r.2)] (D R_api_Sub r.1) := by
 refine SI func89 (fun gs=>[(0, BoxAt (IsV (gs 0)) R_shelf_eye 97 o0)]) (fun gs=>(.box .nil)) fun w O gs own hk=>?_
 unfold shelf_eye_sub_o0 at hm
 obtain ⟨x1,hx2,hm⟩ :=ob hm
 obtain ⟨x3,hx4,hm⟩ :=ob hm
 obtain ⟨x5,hx6,hm⟩ :=ob hm
 obtain ⟨x8,hx9,hm⟩ :=ob hm
 obtain ⟨x11,hx12,hm⟩ :=ob hm
 obtain ⟨x14,hx15,hm⟩ :=ob hm
 obtain ⟨x17,hx18,hm⟩ :=ob hm
 obtain ⟨x20,hx21,hm⟩ :=ob hm
 cases hm
 exact sr<|js (qp (i:=2) zero66)<|nt<|sr<|js (qp (i:=3) zero66)<|nt<|sr<|js (qa ot)<|js (qg (σ:=[(0, 0)]) oF (shelf_eye_def_o0_con o0 _ hx2) call110 (.cons ot (Ren.bp rfl) .nil) .nil (.box rfl .nil) RenB.dat)<|js (qc ot (fp pl66))<|js (qv ot ot fs_api_Sub_0 ty45)<|nt<|sr<|js (qa ot)<|js (qa ot)<|js (qG (Caps.cons ot (Caps.nil (xs := []))))<|js (qg (σ:=[(0, 0)]) oF (shelf_some_api_Off_o0__shelf_eye_off_o0_con x1.2 _ hx4) call139 (.cons ot (Ren.bp rfl) (.cons ot (Ren.bm (.cons (Ren.bp rfl) .nil)) .nil)) .nil (.box rfl .nil) RenB.dat)<|js (qc ot (fp pl66))<|js (qv ot ot fs_api_Sub_1 ty63)<|nt<|sr<|js (qa ot)<|js (qa ot)<|js (qG (Caps.cons ot (Caps.nil (xs := []))))<|js (qg (σ:=[(0, 0)]) oF (shelf_some_api_Inst_o0__shelf_eye_inst_o0_con x3.2 _ hx6) call141 (.cons ot (Ren.bp rfl) (.cons ot (Ren.bm (.cons (Ren.bp rfl) .nil)) .nil)) .nil (.box rfl .nil) RenB.dat)<|js (qc ot (fp pl66))<|js (qv ot ot fs_api_Sub_2 ty64)<|nt<|cs<|sr<|js (qc ot (fp pl66))<|js (qc ot (fp pl66))<|js (qc ot (fp pl66))<|js (qc ot (fp pl66))<|js (qc ot (fp pl66))<|js (op_buildArrE u218 tyP217 zeroP218 (.cons rfl CellE.bp (.cons rfl CellE.bp (.cons rfl CellE.bp (.cons rfl CellE.bp (.cons rfl CellE.bp .nil))))))<|js (qa oi)<|nt<|cb<|JC.unroll 5<|sr<|js (qh ot oi)<|nt<|cs<|JC.condT ot (by decide)<|ck<|tn<|cs<|cb<|sr<|js (op_indexE ot ot u218 tyP217 0)<|js (qb ot)<|nt<|cr<|js (qa ot)<|js (qa ot)<|js (qg (σ:=[(0, 0)]) oF (shelf_eye_number_o0_con x5.2 _ hx9) call83 (.cons ot (Ren.bp rfl) .nil) .nil (.box rfl .nil) RenB.dat)<|js (qt ot)<|js (qv ot ot fs_api_Sub_3 ty3)<|jn<|bn<|tn<|cr<|js (qk ot oi)<|js (qa ot)<|jn<|JE.again<|sr<|js (qh ot oi)<|nt<|cs<|JC.condT ot (by decide)<|ck<|tn<|cs<|cb<|sr<|js (op_indexE ot ot u218 tyP217 1)<|js (qb ot)<|nt<|cr<|js (qa ot)<|js (qa ot)<|js (qg (σ:=[(0, 0)]) oF (shelf_eye_number_o0_con x8.2 _ hx12) call83 (.cons ot (Ren.bp rfl) .nil) .nil (.box rfl .nil) RenB.dat)<|js (qt ot)<|js (qv ot ot fs_api_Sub_4 ty3)<|jn<|bn<|tn<|cr<|js (qk ot oi)<|js (qa ot)<|jn<|JE.again<|sr<|js (qh ot oi)<|nt<|cs<|JC.condT ot (by decide)<|ck<|tn<|cs<|cb<|sr<|js (op_indexE ot ot u218 tyP217 2)<|js (qb ot)<|nt<|cr<|js (qa ot)<|js (qa ot)<|js (qg (σ:=[(0, 0)]) oF (shelf_eye_number_o0_con x11.2 _ hx15) call83 (.cons ot (Ren.bp rfl) .nil) .nil (.box rfl .nil) RenB.dat)<|js (qt ot)<|js (qv ot ot fs_api_Sub_5 ty3)<|jn<|bn<|tn<|cr<|js (qk ot oi)<|js (qa ot)<|jn<|JE.again<|sr<|js (qh ot oi)<|nt<|cs<|JC.condT ot (by decide)<|ck<|tn<|cs<|cb<|sr<|js (op_indexE ot ot u218 tyP217 3)<|js (qb ot)<|nt<|cr<|js (qa ot)<|js (qa ot)<|js (qg (σ:=[(0, 0)]) oF (shelf_eye_number_o0_con x14.2 _ hx18) call83 (.cons ot (Ren.bp rfl) .nil) .nil (.box rfl .nil) RenB.dat)<|js (qt ot)<|js (qv ot ot fs_api_Sub_6 ty3)<|jn<|bn<|tn<|cr<|js (qk ot oi)<|js (qa ot)<|jn<|JE.again<|sr<|js (qh ot oi)<|nt<|cs<|JC.condT ot (by decide)<|ck<|tn<|cs<|cb<|sr<|js (op_indexE ot ot u218 tyP217 4)<|js (qb ot)<|nt<|cr<|js (qa ot)<|js (qa ot)<|js (qg (σ:=[(0, 0)]) oF (shelf_eye_number_o0_con x17.2 _ hx21) call83 (.cons ot (Ren.bp rfl) .nil) .nil (.box rfl .nil) RenB.dat)<|js (qt ot)<|js (qv ot ot fs_api_Sub_7 ty3)<|jn<|bn<|tn<|cr<|js (qk ot oi)<|js (qa ot)<|jn<|JE.again<|sr<|js (qh ot oi)<|nt<|cs<|JC.condF ot (by decide)<|cx<|tx<|tx<|bx<|tn<|sr<|js (qn ot ty66)<|js (qo ot ot ty66)<|nt<|ct<|JE.retSA hk (.box rfl .nil) (.box rfl .nil) rfl (RvS.cell rfl rfl ty66)
theorem shelf_some_api_Sub_o0__shelf_eye_sub_o0_con (o0) (r) (hm : shelf_some_api_Sub_o0__shelf_eye_sub_o0 o0 = some r) : SC 88 [(0,Box R_shelf_eye 97 o0)] [BP 0 0,BM 89 [BP 0 0]] [(0,Box R_shelf_eye 97 r.2)] (D (RSlice R_api_Sub) r.1) := by
 refine SI func88 (fun gs=>[(0, BoxAt (IsV (gs 0)) R_shelf_eye 97 o0)]) (fun gs=>(.box .nil)) fun w O gs own hk=>?_
 unfold shelf_some_api_Sub_o0__shelf_eye_sub_o0 at hm
 obtain ⟨x1,hx2,hm⟩ :=ob hm
 obtain ⟨v4,hj5,hm⟩ :=ob hm
 refine sr<|js (qb (Opd.nil (R := R_api_Sub)))<|nt<|sr<|js (qa ot)<|js (qg (σ:=[(0, 0)]) oF (shelf_eye_id_o0_con o0 _ hx2) call109 (.cons ot (Ren.bp rfl) .nil) .nil (.box rfl .nil) RenB.dat)<|js (qb ot)<|nt<|cs<|sr<|js (qa ot)<|js (qa ot)<|js (qt ot)<|js (qc ot (fp pl97))<|js (qd ot fo_shelf_eye_0 ty9)<|js (qD ot u9)<|js (qA ot u3 u46)<|js (qs ot ot)<|nt<|JC.join [(0, BP 0 0), (1, BM 89 [BP 0 0]), (5, D (RInt .u64) x1.1)] [(0, BoxAt (IsV (gs 0)) R_shelf_eye 97 v4)] ?_ (fun _ hK6=>?_)
 ·obtain ⟨⟨v31,v32⟩,hl33,hm⟩ :=ob hm
  refine tn<|sr<|js (qK (j:=2) (R:=R_api_Sub) (E:=66) (.inr rfl))<|nt<|cs<|JC.join [(6, OS 2)] [(0, BoxAt (IsV (gs 0)) R_shelf_eye 97 v31), (2, OwnSl R_api_Sub 66 v32)] ?_ (fun _ hK34=>?_)
  ·refine tn<|sr<|js (qa ot)<|js (qb ot)<|nt<|ct ?_
   refine JE.imp (Imp.frz 2 (ts := [6, 36, 4]) rfl (.cons rfl (.cons rfl (.cons rfl .nil)))) ?_
   cases hm
   exact JE.retSA hk (.box rfl .nil) (.box rfl .nil) rfl (RvS.tmp rfl)
  ·refine cb<|JC.loop _ (fun s40=>[(0, BP 0 0), (1, BM 89 [BP 0 0]), (5, D (RInt .u64) s40.1), (6, OS 2)]) (fun s40=>[(0, BoxAt (IsV (gs 0)) R_shelf_eye 97 s40.2.1), (2, OwnSl R_api_Sub 66 s40.2.2)]) _ ?_ _ hl33 ml
   intro s40 r39 _ hs36 hB37 hE38
   obtain ⟨v18, v19, v20⟩ := s40
   try dsimp only at hs36
   refine cs<|sr<|js (qa ot)<|js (qs ot oi)<|js (qa ot)<|jg (fun hg42=>qa ot)<|jg (fun hg43=>qt (ow hg43))<|jg (fun hg44=>qc (ow hg44) (fp pl97))<|jg (fun hg45=>qd (ow hg45) fo_shelf_eye_1 ty4)<|jg (fun hg46=>qr (ow hg46))<|js (ql ot (fun hk47 => ow hk47))<|nt<|cn ot hs36 (fun hc48 hs36=>?_) fun hc48 hs36=>?_
   ·obtain ⟨x49,hx50,hs36⟩ :=ob hs36
    obtain ⟨hb51,hs36⟩ :=og hs36
    cases hs36
    refine ck<|tn<|cs<|cb<|cr<|js (qa ot)<|js (qa ot)<|js (qH (σ:=[(0, 0)]) ot (shelf_eye_sub_o0_con v19 _ hx50) call89 .nil (.cons (Ren.bp rfl) .nil) (.box rfl .nil) RenB.dat)<|js (qC u24 ty66 hz66 (.cons ot .nil))<|js (qB (j:=5) ot ot u24 sl66 hb51)<|js (qb ot)<|jn<|bn<|tn<|cr<|js (qa ot)<|js (qE ot oi)<|js (qb ot)<|jn ?_
    exact JE.meetR [(0, 0), (2, 5)] (hB37 _ rfl) (by decide) (by decide) (CVR.cons (t := 0) rfl (Ren.bp rfl) (CVR.cons (t := 1) rfl (Ren.bm (.cons (Ren.bp rfl) .nil)) (CVR.cons (t := 5) rfl Ren.dat (CVR.cons (t := 6) rfl (Ren.os rfl) CVR.nil)))) (OVR.cons (i := 0) rfl RenO.box (OVR.cons (i := 5) rfl RenO.sl OVR.nil))
   ·cases hs36
    cases (hE38 _ rfl)
    exact cx<|tx<|tx<|bx<|mt hK34
 ·refine cn ot hj5 (fun hc53 hj5=>?_) fun hc53 hj5=>?_
  ·cases hj5
   exact cr<|js (qa ot)<|js (qt ot)<|js (qc ot (fp pl97))<|js (qv ot oB fs_shelf_eye_1 ty4)<|jn<|mt hK6
  ·cases hj5
   exact ck<|mt hK6
theorem shelf_some_uint64_o0__shelf_eye_id_o0_con (o0) (r) (hm : shelf_some_uint64_o0__shelf_eye_id_o0 o0 = some r) : SC 143 [(0,Box R_shelf_eye 97 o0)] [BP 0 0,BM 109 [BP 0 0]] [(0,Box R_shelf_eye 97 r.2)] (D (RSlice (RInt .u64)) r.1) := by
 refine SI func143 (fun gs=>[(0, BoxAt (IsV (gs 0)) R_shelf_eye 97 o0)]) (fun gs=>(.box .nil)) fun w O gs own hk=>?_
 unfold shelf_some_uint64_o0__shelf_eye_id_o0 at hm
 obtain ⟨x1,hx2,hm⟩ :=ob hm
 obtain ⟨v4,hj5,hm⟩ :=ob hm
 refine sr<|js (qb (Opd.nil (R := (RInt .u64))))<|nt<|sr<|js (qa ot)<|js (qg (σ:=[(0, 0)]) oF (shelf_eye_id_o0_con o0 _ hx2) call109 (.cons ot (Ren.bp rfl) .nil) .nil (.box rfl .nil) RenB.dat)<|js (qb ot)<|nt<|cs<|sr<|js (qa ot)<|js (qa ot)<|js (qt ot)<|js (qc ot (fp pl97))<|js (qd ot fo_shelf_eye_0 ty9)<|js (qD ot u9)<|js (qA ot u3 u46)<|js (qs ot ot)<|nt<|JC.join [(0, BP 0 0), (1, BM 109 [BP 0 0]), (5, D (RInt .u64) x1.1)] [(0, BoxAt (IsV (gs 0)) R_shelf_eye 97 v4)] ?_ (fun _ hK6=>?_)
 ·obtain ⟨⟨v31,v32⟩,hl33,hm⟩ :=ob hm
  refine tn<|sr<|js (qK (j:=2) (R:=(RInt .u64)) (E:=46) (.inr rfl))<|nt<|cs<|JC.join [(6, OS 2)] [(0, BoxAt (IsV (gs 0)) R_shelf_eye 97 v31), (2, OwnSl (RInt .u64) 46 v32)] ?_ (fun _ hK34=>?_)
  ·refine tn<|sr<|js (qa ot)<|js (qb ot)<|nt<|ct ?_
   refine JE.imp (Imp.frz 2 (ts := [6, 36, 4]) rfl (.cons rfl (.cons rfl (.cons rfl .nil)))) ?_
   cases hm
   exact JE.retSA hk (.box rfl .nil) (.box rfl .nil) rfl (RvS.tmp rfl)
  ·refine cb<|JC.loop _ (fun s40=>[(0, BP 0 0), (1, BM 109 [BP 0 0]), (5, D (RInt .u64) s40.1), (6, OS 2)]) (fun s40=>[(0, BoxAt (IsV (gs 0)) R_shelf_eye 97 s40.2.1), (2, OwnSl (RInt .u64) 46 s40.2.2)]) _ ?_ _ hl33 ml
   intro s40 r39 _ hs36 hB37 hE38
   obtain ⟨v18, v19, v20⟩ := s40
   try dsimp only at hs36
   refine cs<|sr<|js (qa ot)<|js (qs ot oi)<|js (qa ot)<|jg (fun hg42=>qa ot)<|jg (fun hg43=>qt (ow hg43))<|jg (fun hg44=>qc (ow hg44) (fp pl97))<|jg (fun hg45=>qd (ow hg45) fo_shelf_eye_1 ty4)<|jg (fun hg46=>qr (ow hg46))<|js (ql ot (fun hk47 => ow hk47))<|nt<|cn ot hs36 (fun hc48 hs36=>?_) fun hc48 hs36=>?_
   ·obtain ⟨x49,hx50,hs36⟩ :=ob hs36
    obtain ⟨hb51,hs36⟩ :=og hs36
    cases hs36
    refine ck<|tn<|cs<|cb<|cr<|js (qa ot)<|js (qa ot)<|js (qH (σ:=[(0, 0)]) ot (shelf_eye_id_o0_con v19 _ hx50) call109 .nil (.cons (Ren.bp rfl) .nil) (.box rfl .nil) RenB.dat)<|js (qC u86 ty46 hz46 (.cons ot .nil))<|js (qB (j:=5) ot ot u86 sl46 hb51)<|js (qb ot)<|jn<|bn<|tn<|cr<|js (qa ot)<|js (qE ot oi)<|js (qb ot)<|jn ?_
    exact JE.meetR [(0, 0), (2, 5)] (hB37 _ rfl) (by decide) (by decide) (CVR.cons (t := 0) rfl (Ren.bp rfl) (CVR.cons (t := 1) rfl (Ren.bm (.cons (Ren.bp rfl) .nil)) (CVR.cons (t := 5) rfl Ren.dat (CVR.cons (t := 6) rfl (Ren.os rfl) CVR.nil)))) (OVR.cons (i := 0) rfl RenO.box (OVR.cons (i := 5) rfl RenO.sl OVR.nil))
   ·cases hs36
    cases (hE38 _ rfl)
    exact cx<|tx<|tx<|bx<|mt hK34
 ·refine cn ot hj5 (fun hc53 hj5=>?_) fun hc53 hj5=>?_
  ·cases hj5
   exact cr<|js (qa ot)<|js (qt ot)<|js (qc ot (fp pl97))<|js (qv ot oB fs_shelf_eye_1 ty4)<|jn<|mt hK6
  ·cases hj5
   exact ck<|mt hK6
theorem shelf_eye_out_o0_con (o0) (r) (hm : shelf_eye_out_o0 o0 = some r) : SC 91 [(0,Box R_shelf_eye 97 o0)] [BP 0 0] [(0,Box R_shelf_eye 97 r.2)] (D R_api_Out r.1) := by
 refine SI func91 (fun gs=>[(0, BoxAt (IsV (gs 0)) R_shelf_eye 97 o0)]) (fun gs=>(.box .nil)) fun w O gs own hk=>?_
 unfold shelf_eye_out_o0 at hm
 obtain ⟨x1,hx2,hm⟩ :=ob hm
 obtain ⟨x3,hx4,hm⟩ :=ob hm
 obtain ⟨x5,hx6,hm⟩ :=ob hm
 obtain ⟨x7,hx8,hm⟩ :=ob hm
 obtain ⟨x9,hx10,hm⟩ :=ob hm
 cases hm
 exact sr<|js (qp (i:=2) zero88)<|nt<|sr<|js (qp (i:=3) zero88)<|nt<|sr<|js (qa ot)<|js (qg (σ:=[(0, 0)]) oF (shelf_eye_id_o0_con o0 _ hx2) call109 (.cons ot (Ren.bp rfl) .nil) .nil (.box rfl .nil) RenB.dat)<|js (qc ot (fp pl88))<|js (qv ot ot fs_api_Out_0 ty46)<|nt<|sr<|js (qa ot)<|js (qg (σ:=[(0, 0)]) oF (shelf_eye_text_o0_con x1.2 _ hx4) call107 (.cons ot (Ren.bp rfl) .nil) .nil (.box rfl .nil) RenB.dat)<|js (qc ot (fp pl88))<|js (qv ot ot fs_api_Out_1 ty9)<|nt<|sr<|js (qa ot)<|js (qa ot)<|js (qG (Caps.cons ot (Caps.nil (xs := []))))<|js (qg (σ:=[(0, 0)]) oF (shelf_some_uint64_o0__shelf_eye_id_o0_con x3.2 _ hx6) call143 (.cons ot (Ren.bp rfl) (.cons ot (Ren.bm (.cons (Ren.bp rfl) .nil)) .nil)) .nil (.box rfl .nil) RenB.dat)<|js (qc ot (fp pl88))<|js (qv ot ot fs_api_Out_2 ty86)<|nt<|sr<|js (qa ot)<|js (qg (σ:=[(0, 0)]) oF (shelf_eye_number_o0_con x5.2 _ hx8) call83 (.cons ot (Ren.bp rfl) .nil) .nil (.box rfl .nil) RenB.dat)<|js (qc ot (fp pl88))<|js (qv ot ot fs_api_Out_3 ty3)<|nt<|sr<|js (qa ot)<|js (qg (σ:=[(0, 0)]) oF (shelf_eye_number_o0_con x7.2 _ hx10) call83 (.cons ot (Ren.bp rfl) .nil) .nil (.box rfl .nil) RenB.dat)<|js (qc ot (fp pl88))<|js (qv ot ot fs_api_Out_4 ty3)<|nt<|sr<|js (qn ot ty88)<|js (qo ot ot ty88)<|nt<|ct<|JE.retSA hk (.box rfl .nil) (.box rfl .nil) rfl (RvS.cell rfl rfl ty88)
theorem shelf_some_api_Out_o0__shelf_eye_out_o0_con (o0) (r) (hm : shelf_some_api_Out_o0__shelf_eye_out_o0 o0 = some r) : SC 90 [(0,Box R_shelf_eye 97 o0)] [BP 0 0,BM 91 [BP 0 0]] [(0,Box R_shelf_eye 97 r.2)] (D (RSlice R_api_Out) r.1) := by
 refine SI func90 (fun gs=>[(0, BoxAt (IsV (gs 0)) R_shelf_eye 97 o0)]) (fun gs=>(.box .nil)) fun w O gs own hk=>?_
 unfold shelf_some_api_Out_o0__shelf_eye_out_o0 at hm
 obtain ⟨x1,hx2,hm⟩ :=ob hm
 obtain ⟨v4,hj5,hm⟩ :=ob hm
 refine sr<|js (qb (Opd.nil (R := R_api_Out)))<|nt<|sr<|js (qa ot)<|js (qg (σ:=[(0, 0)]) oF (shelf_eye_id_o0_con o0 _ hx2) call109 (.cons ot (Ren.bp rfl) .nil) .nil (.box rfl .nil) RenB.dat)<|js (qb ot)<|nt<|cs<|sr<|js (qa ot)<|js (qa ot)<|js (qt ot)<|js (qc ot (fp pl97))<|js (qd ot fo_shelf_eye_0 ty9)<|js (qD ot u9)<|js (qA ot u3 u46)<|js (qs ot ot)<|nt<|JC.join [(0, BP 0 0), (1, BM 91 [BP 0 0]), (5, D (RInt .u64) x1.1)] [(0, BoxAt (IsV (gs 0)) R_shelf_eye 97 v4)] ?_ (fun _ hK6=>?_)
 ·obtain ⟨⟨v31,v32⟩,hl33,hm⟩ :=ob hm
  refine tn<|sr<|js (qK (j:=2) (R:=R_api_Out) (E:=88) (.inr rfl))<|nt<|cs<|JC.join [(6, OS 2)] [(0, BoxAt (IsV (gs 0)) R_shelf_eye 97 v31), (2, OwnSl R_api_Out 88 v32)] ?_ (fun _ hK34=>?_)
  ·refine tn<|sr<|js (qa ot)<|js (qb ot)<|nt<|ct ?_
   refine JE.imp (Imp.frz 2 (ts := [6, 36, 4]) rfl (.cons rfl (.cons rfl (.cons rfl .nil)))) ?_
   cases hm
   exact JE.retSA hk (.box rfl .nil) (.box rfl .nil) rfl (RvS.tmp rfl)
  ·refine cb<|JC.loop _ (fun s40=>[(0, BP 0 0), (1, BM 91 [BP 0 0]), (5, D (RInt .u64) s40.1), (6, OS 2)]) (fun s40=>[(0, BoxAt (IsV (gs 0)) R_shelf_eye 97 s40.2.1), (2, OwnSl R_api_Out 88 s40.2.2)]) _ ?_ _ hl33 ml
   intro s40 r39 _ hs36 hB37 hE38
   obtain ⟨v18, v19, v20⟩ := s40
   try dsimp only at hs36
   refine cs<|sr<|js (qa ot)<|js (qs ot oi)<|js (qa ot)<|jg (fun hg42=>qa ot)<|jg (fun hg43=>qt (ow hg43))<|jg (fun hg44=>qc (ow hg44) (fp pl97))<|jg (fun hg45=>qd (ow hg45) fo_shelf_eye_1 ty4)<|jg (fun hg46=>qr (ow hg46))<|js (ql ot (fun hk47 => ow hk47))<|nt<|cn ot hs36 (fun hc48 hs36=>?_) fun hc48 hs36=>?_
   ·obtain ⟨x49,hx50,hs36⟩ :=ob hs36
    obtain ⟨hb51,hs36⟩ :=og hs36
    cases hs36
    refine ck<|tn<|cs<|cb<|cr<|js (qa ot)<|js (qa ot)<|js (qH (σ:=[(0, 0)]) ot (shelf_eye_out_o0_con v19 _ hx50) call91 .nil (.cons (Ren.bp rfl) .nil) (.box rfl .nil) RenB.dat)<|js (qC u25 ty88 hz88 (.cons ot .nil))<|js (qB (j:=5) ot ot u25 sl88 hb51)<|js (qb ot)<|jn<|bn<|tn<|cr<|js (qa ot)<|js (qE ot oi)<|js (qb ot)<|jn ?_
    exact JE.meetR [(0, 0), (2, 5)] (hB37 _ rfl) (by decide) (by decide) (CVR.cons (t := 0) rfl (Ren.bp rfl) (CVR.cons (t := 1) rfl (Ren.bm (.cons (Ren.bp rfl) .nil)) (CVR.cons (t := 5) rfl Ren.dat (CVR.cons (t := 6) rfl (Ren.os rfl) CVR.nil)))) (OVR.cons (i := 0) rfl RenO.box (OVR.cons (i := 5) rfl RenO.sl OVR.nil))
   ·cases hs36
    cases (hE38 _ rfl)
    exact cx<|tx<|tx<|bx<|mt hK34
 ·refine cn ot hj5 (fun hc53 hj5=>?_) fun hc53 hj5=>?_
  ·cases hj5
   exact cr<|js (qa ot)<|js (qt ot)<|js (qc ot (fp pl97))<|js (qv ot oB fs_shelf_eye_1 ty4)<|jn<|mt hK6
  ·cases hj5
   exact ck<|mt hK6
theorem shelf_eye_dead_o0_con (o0) (r) (hm : shelf_eye_dead_o0 o0 = some r) : SC 93 [(0,Box R_shelf_eye 97 o0)] [BP 0 0] [(0,Box R_shelf_eye 97 r.2)] (D R_api_Dead r.1) := by
 refine SI func93 (fun gs=>[(0, BoxAt (IsV (gs 0)) R_shelf_eye 97 o0)]) (fun gs=>(.box .nil)) fun w O gs own hk=>?_
 unfold shelf_eye_dead_o0 at hm
 obtain ⟨x1,hx2,hm⟩ :=ob hm
 obtain ⟨x3,hx4,hm⟩ :=ob hm
 cases hm
 exact sr<|js (qp (i:=2) zero72)<|nt<|sr<|js (qp (i:=3) zero72)<|nt<|sr<|js (qa ot)<|js (qg (σ:=[(0, 0)]) oF (shelf_eye_text_o0_con o0 _ hx2) call107 (.cons ot (Ren.bp rfl) .nil) .nil (.box rfl .nil) RenB.dat)<|js (qc ot (fp pl72))<|js (qv ot ot fs_api_Dead_0 ty9)<|nt<|sr<|js (qa ot)<|js (qg (σ:=[(0, 0)]) oF (shelf_eye_text_o0_con x1.2 _ hx4) call107 (.cons ot (Ren.bp rfl) .nil) .nil (.box rfl .nil) RenB.dat)<|js (qc ot (fp pl72))<|js (qv ot ot fs_api_Dead_1 ty9)<|nt<|sr<|js (qn ot ty72)<|js (qo ot ot ty72)<|nt<|ct<|JE.retSA hk (.box rfl .nil) (.box rfl .nil) rfl (RvS.cell rfl rfl ty72)
theorem shelf_some_api_Dead_o0__shelf_eye_dead_o0_con (o0) (r) (hm : shelf_some_api_Dead_o0__shelf_eye_dead_o0 o0 = some r) : SC 92 [(0,Box R_shelf_eye 97 o0)] [BP 0 0,BM 93 [BP 0 0]] [(0,Box R_shelf_eye 97 r.2)] (D (RSlice R_api_Dead) r.1) := by
 refine SI func92 (fun gs=>[(0, BoxAt (IsV (gs 0)) R_shelf_eye 97 o0)]) (fun gs=>(.box .nil)) fun w O gs own hk=>?_
 unfold shelf_some_api_Dead_o0__shelf_eye_dead_o0 at hm
 obtain ⟨x1,hx2,hm⟩ :=ob hm
 obtain ⟨v4,hj5,hm⟩ :=ob hm
 refine sr<|js (qb (Opd.nil (R := R_api_Dead)))<|nt<|sr<|js (qa ot)<|js (qg (σ:=[(0, 0)]) oF (shelf_eye_id_o0_con o0 _ hx2) call109 (.cons ot (Ren.bp rfl) .nil) .nil (.box rfl .nil) RenB.dat)<|js (qb ot)<|nt<|cs<|sr<|js (qa ot)<|js (qa ot)<|js (qt ot)<|js (qc ot (fp pl97))<|js (qd ot fo_shelf_eye_0 ty9)<|js (qD ot u9)<|js (qA ot u3 u46)<|js (qs ot ot)<|nt<|JC.join [(0, BP 0 0), (1, BM 93 [BP 0 0]), (5, D (RInt .u64) x1.1)] [(0, BoxAt (IsV (gs 0)) R_shelf_eye 97 v4)] ?_ (fun _ hK6=>?_)
 ·obtain ⟨⟨v31,v32⟩,hl33,hm⟩ :=ob hm
  refine tn<|sr<|js (qK (j:=2) (R:=R_api_Dead) (E:=72) (.inr rfl))<|nt<|cs<|JC.join [(6, OS 2)] [(0, BoxAt (IsV (gs 0)) R_shelf_eye 97 v31), (2, OwnSl R_api_Dead 72 v32)] ?_ (fun _ hK34=>?_)
  ·refine tn<|sr<|js (qa ot)<|js (qb ot)<|nt<|ct ?_
   refine JE.imp (Imp.frz 2 (ts := [6, 36, 4]) rfl (.cons rfl (.cons rfl (.cons rfl .nil)))) ?_
   cases hm
   exact JE.retSA hk (.box rfl .nil) (.box rfl .nil) rfl (RvS.tmp rfl)
  ·refine cb<|JC.loop _ (fun s40=>[(0, BP 0 0), (1, BM 93 [BP 0 0]), (5, D (RInt .u64) s40.1), (6, OS 2)]) (fun s40=>[(0, BoxAt (IsV (gs 0)) R_shelf_eye 97 s40.2.1), (2, OwnSl R_api_Dead 72 s40.2.2)]) _ ?_ _ hl33 ml
   intro s40 r39 _ hs36 hB37 hE38
   obtain ⟨v18, v19, v20⟩ := s40
   try dsimp only at hs36
   refine cs<|sr<|js (qa ot)<|js (qs ot oi)<|js (qa ot)<|jg (fun hg42=>qa ot)<|jg (fun hg43=>qt (ow hg43))<|jg (fun hg44=>qc (ow hg44) (fp pl97))<|jg (fun hg45=>qd (ow hg45) fo_shelf_eye_1 ty4)<|jg (fun hg46=>qr (ow hg46))<|js (ql ot (fun hk47 => ow hk47))<|nt<|cn ot hs36 (fun hc48 hs36=>?_) fun hc48 hs36=>?_
   ·obtain ⟨x49,hx50,hs36⟩ :=ob hs36
    obtain ⟨hb51,hs36⟩ :=og hs36
    cases hs36
    refine ck<|tn<|cs<|cb<|cr<|js (qa ot)<|js (qa ot)<|js (qH (σ:=[(0, 0)]) ot (shelf_eye_dead_o0_con v19 _ hx50) call93 .nil (.cons (Ren.bp rfl) .nil) (.box rfl .nil) RenB.dat)<|js (qC u26 ty72 hz72 (.cons ot .nil))<|js (qB (j:=5) ot ot u26 sl72 hb51)<|js (qb ot)<|jn<|bn<|tn<|cr<|js (qa ot)<|js (qE ot oi)<|js (qb ot)<|jn ?_
    exact JE.meetR [(0, 0), (2, 5)] (hB37 _ rfl) (by decide) (by decide) (CVR.cons (t := 0) rfl (Ren.bp rfl) (CVR.cons (t := 1) rfl (Ren.bm (.cons (Ren.bp rfl) .nil)) (CVR.cons (t := 5) rfl Ren.dat (CVR.cons (t := 6) rfl (Ren.os rfl) CVR.nil)))) (OVR.cons (i := 0) rfl RenO.box (OVR.cons (i := 5) rfl RenO.sl OVR.nil))
   ·cases hs36
    cases (hE38 _ rfl)
    exact cx<|tx<|tx<|bx<|mt hK34
 ·refine cn ot hj5 (fun hc53 hj5=>?_) fun hc53 hj5=>?_
  ·cases hj5
   exact cr<|js (qa ot)<|js (qt ot)<|js (qc ot (fp pl97))<|js (qv ot oB fs_shelf_eye_1 ty4)<|jn<|mt hK6
  ·cases hj5
   exact ck<|mt hK6
theorem shelf_eye_router_o0_con (o0) (r) (hm : shelf_eye_router_o0 o0 = some r) : SC 35 [(0,Box R_shelf_eye 97 o0)] [BP 0 0] [(0,Box R_shelf_eye 97 r.2)] (D R_api_Router r.1) := by
 refine SI func35 (fun gs=>[(0, BoxAt (IsV (gs 0)) R_shelf_eye 97 o0)]) (fun gs=>(.box .nil)) fun w O gs own hk=>?_
 unfold shelf_eye_router_o0 at hm
 obtain ⟨x1,hx2,hm⟩ :=ob hm
 obtain ⟨x3,hx4,hm⟩ :=ob hm
 obtain ⟨x5,hx6,hm⟩ :=ob hm
 obtain ⟨x7,hx8,hm⟩ :=ob hm
 obtain ⟨x9,hx10,hm⟩ :=ob hm
 obtain ⟨x11,hx12,hm⟩ :=ob hm
 obtain ⟨x13,hx14,hm⟩ :=ob hm
 obtain ⟨x15,hx16,hm⟩ :=ob hm
 cases hm
 exact sr<|js (qp (i:=2) zero28)<|nt<|sr<|js (qp (i:=3) zero28)<|nt<|sr<|js (qa ot)<|js (qg (σ:=[(0, 0)]) oF (shelf_eye_number_o0_con o0 _ hx2) call83 (.cons ot (Ren.bp rfl) .nil) .nil (.box rfl .nil) RenB.dat)<|js (qc ot (fp pl28))<|js (qv ot ot fs_api_Router_0 ty3)<|nt<|sr<|js (qa ot)<|js (qa ot)<|js (qG (Caps.cons ot (Caps.nil (xs := []))))<|js (qg (σ:=[(0, 0)]) oF (shelf_some_api_Topic_o0__shelf_eye_topic_o0_con x1.2 _ hx4) call84 (.cons ot (Ren.bp rfl) (.cons ot (Ren.bm (.cons (Ren.bp rfl) .nil)) .nil)) .nil (.box rfl .nil) RenB.dat)<|js (qc ot (fp pl28))<|js (qv ot ot fs_api_Router_1 ty22)<|nt<|sr<|js (qa ot)<|js (qa ot)<|js (qG (Caps.cons ot (Caps.nil (xs := []))))<|js (qg (σ:=[(0, 0)]) oF (shelf_some_api_Last_o0__shelf_eye_last_o0_con x3.2 _ hx6) call86 (.cons ot (Ren.bp rfl) (.cons ot (Ren.bm (.cons (Ren.bp rfl) .nil)) .nil)) .nil (.box rfl .nil) RenB.dat)<|js (qc ot (fp pl28))<|js (qv ot ot fs_api_Router_2 ty23)<|nt<|sr<|js (qa ot)<|js (qa ot)<|js (qG (Caps.cons ot (Caps.nil (xs := []))))<|js (qg (σ:=[(0, 0)]) oF (shelf_some_api_Sub_o0__shelf_eye_sub_o0_con x5.2 _ hx8) call88 (.cons ot (Ren.bp rfl) (.cons ot (Ren.bm (.cons (Ren.bp rfl) .nil)) .nil)) .nil (.box rfl .nil) RenB.dat)<|js (qc ot (fp pl28))<|js (qv ot ot fs_api_Router_3 ty24)<|nt<|sr<|js (qa ot)<|js (qg (σ:=[(0, 0)]) oF (shelf_eye_number_o0_con x7.2 _ hx10) call83 (.cons ot (Ren.bp rfl) .nil) .nil (.box rfl .nil) RenB.dat)<|js (qc ot (fp pl28))<|js (qv ot ot fs_api_Router_4 ty3)<|nt<|sr<|js (qa ot)<|js (qa ot)<|js (qG (Caps.cons ot (Caps.nil (xs := []))))<|js (qg (σ:=[(0, 0)]) oF (shelf_some_api_Out_o0__shelf_eye_out_o0_con x9.2 _ hx12) call90 (.cons ot (Ren.bp rfl) (.cons ot (Ren.bm (.cons (Ren.bp rfl) .nil)) .nil)) .nil (.box rfl .nil) RenB.dat)<|js (qc ot (fp pl28))<|js (qv ot ot fs_api_Router_5 ty25)<|nt<|sr<|js (qa ot)<|js (qa ot)<|js (qG (Caps.cons ot (Caps.nil (xs := []))))<|js (qg (σ:=[(0, 0)]) oF (shelf_some_api_Out_o0__shelf_eye_out_o0_con x11.2 _ hx14) call90 (.cons ot (Ren.bp rfl) (.cons ot (Ren.bm (.cons (Ren.bp rfl) .nil)) .nil)) .nil (.box rfl .nil) RenB.dat)<|js (qc ot (fp pl28))<|js (qv ot ot fs_api_Router_6 ty25)<|nt<|sr<|js (qa ot)<|js (qa ot)<|js (qG (Caps.cons ot (Caps.nil (xs := []))))<|js (qg (σ:=[(0, 0)]) oF (shelf_some_api_Dead_o0__shelf_eye_dead_o0_con x13.2 _ hx16) call92 (.cons ot (Ren.bp rfl) (.cons ot (Ren.bm (.cons (Ren.bp rfl) .nil)) .nil)) .nil (.box rfl .nil) RenB.dat)<|js (qc ot (fp pl28))<|js (qv ot ot fs_api_Router_7 ty26)<|nt<|sr<|js (qn ot ty28)<|js (qo ot ot ty28)<|nt<|ct<|JE.retSA hk (.box rfl .nil) (.box rfl .nil) rfl (RvS.cell rfl rfl ty28)
theorem shelf_eye_whole_con (a0) (r) (hm : shelf_eye_whole a0 = r) : PC 36 [D (RPtr R_shelf_eye) a0] (D RBool r) := by
 refine PI func36 fun w O=>?_
 unfold shelf_eye_whole at hm
 cases hm
 exact sr<|js (qb oB)<|nt<|sr<|js (qa ot)<|js (vw ot)<|js (qx ot (fp pl97) fo_shelf_eye_1)<|js (qi ot ty4)<|js (qr ot)<|js (qa ot)<|jg (fun hg1=>qa ot)<|jg (fun hg2=>vw (ow hg2))<|jg (fun hg3=>qx (ow hg3) (fp pl97) fo_shelf_eye_0)<|jg (fun hg4=>qi (ow hg4) ty9)<|jg (fun hg5=>qz (ow hg5) oS)<|js (ql ot (fun hk6 => ow hk6))<|js (qb ot)<|nt<|ct<|JE.retA rfl (RvOK.tmp rfl)
theorem shelf_Take_con (a0) (r) (hm : shelf_Take a0 = some r) : PC 11 [D RStr a0] (TUP [D R_api_Router r.1,D (RInt .i64) r.2]) := by
 refine PI func11 fun w O=>?_
 unfold shelf_Take at hm
 obtain ⟨x1,hx2,hm⟩ :=ob hm
 obtain ⟨x5,hx6,hm⟩ :=ob hm
 refine sr<|js (qp (i:=1) zero28)<|js (qb oi)<|nt<|sr<|js (qa ot)<|js (qF pl97 zero97 (Fill.cons rfl ot fs_shelf_eye_0 Fill.nil))<|js (qp (i:=2) zero97)<|js (qo ot ot ty97)<|nt<|sr<|js (qg (σ:=[(0, 2)]) oF (shelf_eye_router_o0_con (⟨a0, false⟩ : shelf_eye) _ hx2) call35 (.cons ot (Ren.bp rfl) .nil) .nil (.box rfl .nil) RenB.dat)<|js (qp (i:=3) zero28)<|js (qo ot ot ty28)<|nt<|cs<|sr<|js (qL (F:=[2]) oF (shelf_eye_whole_con x1.2 _ rfl) call36 (zc (OpdF.bp ot rfl FieldOf.self rfl) zn) FzE.nil WI.bool)<|js (qr ot)<|js (qa ot)<|jg (fun hg3=>qn ot ty28)<|jg (fun hg4=>qe oF (route_Check_con x1.1 _ (of_pos hg4 hx6)) call25 (zc (zo (ow hg4)) zn))<|jg (fun hg7=>qw (ow hg7) oi)<|js (qm ot (fun hk8 => ow hk8))<|nt<|cn ot hm (fun hc9 hm=>?_) fun hc9 hm=>?_
 ·cases hm
  exact sr<|js (qF pl28 zero28 Fill.nil)<|js (qo ot ot ty28)<|js (qb oi)<|nt<|ct<|tr<|JE.retB rfl (RvOK.cell rfl rfl ty28) (RvOK.tmp rfl)
 ·cases hm
  exact ck<|tn<|sr<|js (qn ot ty28)<|js (qo ot ot ty28)<|js (qb oi)<|nt<|ct<|JE.retB rfl (RvOK.cell rfl rfl ty28) (RvOK.tmp rfl)
theorem shelf_none_con (a0) (r) (hm : shelf_none a0 = r) : PC 102 [D R_api_Def a0] (D RBool r) := by
 refine PI func102 fun w O=>?_
 unfold shelf_none at hm
 cases hm
 exact sr<|js (qq (i:=1) ot)<|js (qb oB)<|nt<|sr<|js (qc ot (fp pl45))<|js (qd ot fo_api_Def_0 ty9)<|js (qz ot oS)<|js (qa ot)<|jg (fun hg1=>qc ot (fp pl45))<|jg (fun hg2=>qd (ow hg2) fo_api_Def_1 ty40)<|jg (fun hg3=>qf (ow hg3) u40)<|jg (fun hg4=>qy (ow hg4) oi)<|js (ql ot (fun hk5 => ow hk5))<|js (qa ot)<|jg (fun hg6=>qc ot (fp pl45))<|jg (fun hg7=>qd (ow hg7) fo_api_Def_2 ty41)<|jg (fun hg8=>qf (ow hg8) u41)<|jg (fun hg9=>qy (ow hg9) oi)<|js (ql ot (fun hk10 => ow hk10))<|js (qa ot)<|jg (fun hg11=>qc ot (fp pl45))<|jg (fun hg12=>qd (ow hg12) fo_api_Def_3 ty9)<|jg (fun hg13=>qz (ow hg13) oS)<|js (ql ot (fun hk14 => ow hk14))<|js (qa ot)<|jg (fun hg15=>qc ot (fp pl45))<|jg (fun hg16=>qd (ow hg16) fo_api_Def_4 ty43)<|jg (fun hg17=>qF pl43 zero43 Fill.nil)<|jg (fun hg18=>vp (ow hg18) (ow hg18) eq43)<|js (ql ot (fun hk19 => ow hk19))<|js (qb ot)<|nt<|ct<|JE.retA rfl (RvOK.tmp rfl)
theorem shelf_May_con (a0) (r) (hm : shelf_May a0 = some r) : PC 50 [D R_api_Op a0] (D RBool r) := by
 refine PI func50 fun w O=>?_
 unfold shelf_May at hm
 refine sr<|js (qq (i:=1) ot)<|js (qb oB)<|nt<|cs<|sr<|js (qc ot (fp pl48))<|js (qd ot fo_api_Op_0 ty3)<|js (qh ot oi)<|js (qa ot)<|jg (fun hg1=>qc ot (fp pl48))<|jg (fun hg2=>qd (ow hg2) fo_api_Op_0 ty3)<|jg (fun hg3=>qs (ow hg3) oi)<|js (qm ot (fun hk4 => ow hk4))<|js (qa ot)<|jg (fun hg5=>qc ot (fp pl48))<|jg (fun hg6=>qd (ow hg6) fo_api_Op_1 ty9)<|jg (fun hg7=>qD (ow hg7) u9)<|jg (fun hg8=>qs (ow hg8) oi)<|js (qm ot (fun hk9 => ow hk9))<|nt<|cn ot hm (fun hc10 hm=>?_) fun hc10 hm=>?_
 ·cases hm
  exact sr<|js (qb oB)<|nt<|ct<|tr<|JE.retA rfl (RvOK.tmp rfl)
 ·refine ck<|tn<|cs<|sr<|js (qc ot (fp pl48))<|js (qd ot fo_api_Op_0 ty3)<|js (qy ot oi)<|nt<|cn ot hm (fun hc11 hm=>?_) fun hc11 hm=>?_
  ·obtain ⟨x12,hx13,hm⟩ :=ob hm
   cases hm
   exact sr<|js (qc ot (fp pl48))<|js (qd ot fo_api_Op_2 ty45)<|js (qe oF (offs_May_con (api_Op.D a0) _ hx13) call101 (ze zn))<|js (qb ot)<|nt<|ct<|tr<|JE.retA rfl (RvOK.tmp rfl)
  ·cases hm
   exact ck<|tn<|sr<|js (qc ot (fp pl48))<|js (qd ot fo_api_Op_2 ty45)<|js (qe oF (shelf_none_con (api_Op.D a0) _ rfl) call102 (ze zn))<|js (qb ot)<|nt<|ct<|JE.retA rfl (RvOK.tmp rfl)
theorem shelf_pen_truth_o0_con (a1) (o0) (r) (hm : shelf_pen_truth_o0 a1 o0 = some r) : SC 104 [(0,Bld 79 o0)] [BP 0 0,D RBool a1] [(0,Bld 79 r)] (TUP []) := by
 refine SI func104 (fun gs=>[(0, BldAt (IsV (gs 0)) 79 o0)]) (fun gs=>(.bld .nil)) fun w O gs own hk=>?_
 unfold shelf_pen_truth_o0 at hm
 refine sr<|js (qa ot)<|nt<|cn ot hm (fun hc1 hm=>?_) fun hc1 hm=>?_
 ·obtain ⟨x2,hx3,hm⟩ :=ob hm
  cases hm
  exact cr<|js (qa ot)<|js (qt ot)<|js (qc ot (fp pl79))<|js (qg (σ:=[(0, 0)]) oF (strings_Builder_WriteByte_con bld79 (by decide) (1 : Int) o0 _ hx3) call154 (.cons ot (Ren.bp rfl) (.cons oi Ren.dat .nil)) .nil (.bld rfl .nil) RenB.dat)<|jn<|JE.end0<|JE.retS0 hk (.bld rfl .nil) (.bld rfl .nil) rfl
 ·obtain ⟨x4,hx5,hm⟩ :=ob hm
  cases hm
  exact cr<|js (qa ot)<|js (qt ot)<|js (qc ot (fp pl79))<|js (qg (σ:=[(0, 0)]) oF (strings_Builder_WriteByte_con bld79 (by decide) (0 : Int) o0 _ hx5) call154 (.cons ot (Ren.bp rfl) (.cons oi Ren.dat .nil)) .nil (.bld rfl .nil) RenB.dat)<|jn<|JE.end0<|JE.retS0 hk (.bld rfl .nil) (.bld rfl .nil) rfl
theorem shelf_pen_op_o0_con (a1) (o0) (r) (hm : shelf_pen_op_o0 a1 o0 = some r) : SC 51 [(0,Bld 79 o0)] [BP 0 0,D R_api_Op a1] [(0,Bld 79 r)] (TUP []) := by
 refine SI func51 (fun gs=>[(0, BldAt (IsV (gs 0)) 79 o0)]) (fun gs=>(.bld .nil)) fun w O gs own hk=>?_
 unfold shelf_pen_op_o0 at hm
 obtain ⟨x1,hx2,hm⟩ :=ob hm
 obtain ⟨x3,hx4,hm⟩ :=ob hm
 obtain ⟨x5,hx6,hm⟩ :=ob hm
 obtain ⟨x7,hx8,hm⟩ :=ob hm
 obtain ⟨x9,hx10,hm⟩ :=ob hm
 refine sr<|js (qq (i:=2) ot)<|nt<|sr<|js (qa ot)<|js (qc ot (fp pl48))<|js (qd ot fo_api_Op_0 ty3)<|js (qg (σ:=[(0, 0)]) oF (shelf_pen_number_o0_con (api_Op.Kind a1) o0 _ hx2) call63 (.cons ot (Ren.bp rfl) (.cons ot Ren.dat .nil)) .nil (.bld rfl .nil) (RenB.tup .nil))<|nt<|sr<|js (qa ot)<|js (qc ot (fp pl48))<|js (qd ot fo_api_Op_1 ty9)<|js (qg (σ:=[(0, 0)]) oF (shelf_pen_text_o0_con (api_Op.S a1) x1 _ hx4) call103 (.cons ot (Ren.bp rfl) (.cons ot Ren.dat .nil)) .nil (.bld rfl .nil) (RenB.tup .nil))<|nt<|sr<|js (qa ot)<|js (qc ot (fp pl48))<|js (qd ot fo_api_Op_3 ty4)<|js (qg (σ:=[(0, 0)]) oF (shelf_pen_truth_o0_con (api_Op.Ok a1) x3 _ hx6) call104 (.cons ot (Ren.bp rfl) (.cons ot Ren.dat .nil)) .nil (.bld rfl .nil) (RenB.tup .nil))<|nt<|sr<|js (qa ot)<|js (qc ot (fp pl48))<|js (qd ot fo_api_Op_4 ty46)<|js (qg (σ:=[(0, 0)]) oF (shelf_pen_id_o0_con (api_Op.Id a1) x5 _ hx8) call105 (.cons ot (Ren.bp rfl) (.cons ot Ren.dat .nil)) .nil (.bld rfl .nil) (RenB.tup .nil))<|nt<|sr<|js (qa ot)<|js (qc ot (fp pl48))<|js (qd ot fo_api_Op_5 ty3)<|js (qg (σ:=[(0, 0)]) oF (shelf_pen_number_o0_con (api_Op.N a1) x7 _ hx10) call63 (.cons ot (Ren.bp rfl) (.cons ot Ren.dat .nil)) .nil (.bld rfl .nil) (RenB.tup .nil))<|nt<|sr<|js (qc ot (fp pl48))<|js (qd ot fo_api_Op_0 ty3)<|js (qy ot oi)<|nt<|cn ot hm (fun hc11 hm=>?_) fun hc11 hm=>?_
 ·obtain ⟨x12,hx13,hm⟩ :=ob hm
  cases hm
  exact cr<|js (qa ot)<|js (qc ot (fp pl48))<|js (qd ot fo_api_Op_2 ty45)<|js (qg (σ:=[(0, 0)]) oF (shelf_pen_def_o0_con (api_Op.D a1) x9 _ hx13) call106 (.cons ot (Ren.bp rfl) (.cons ot Ren.dat .nil)) .nil (.bld rfl .nil) (RenB.tup .nil))<|jn<|JE.end0<|JE.retS0 hk (.bld rfl .nil) (.bld rfl .nil) rfl
 ·cases hm
  exact ck<|JE.end0<|JE.retS0 hk (.bld rfl .nil) (.bld rfl .nil) rfl
theorem shelf_LayOp_con (a0) (r) (hm : shelf_LayOp a0 = some r) : PC 15 [D R_api_Op a0] (TUP [D RStr r.1,D (RInt .i64) r.2]) := by
 refine PI func15 fun w O=>?_
 unfold shelf_LayOp at hm
 obtain ⟨x1,hx2,hm⟩ :=ob hm
 refine sr<|js (qq (i:=1) ot)<|js (qb oS)<|js (qb oi)<|nt<|cs<|sr<|js (qn ot ty48)<|js (qe oF (shelf_May_con a0 _ hx2) call50 (ze zn))<|js (qr ot)<|nt<|cn ot hm (fun hc3 hm=>?_) fun hc3 hm=>?_
 ·cases hm
  exact sr<|js (qb oS)<|js (qb oi)<|nt<|ct<|tr<|JE.retB rfl (RvOK.tmp rfl) (RvOK.tmp rfl)
 ·obtain ⟨x4,hx5,hm⟩ :=ob hm
  obtain ⟨x6,hx7,hm⟩ :=ob hm
  cases hm
  exact ck<|tn<|sr<|js (vf (j:=2))<|nt<|sr<|js (qn ot ty48)<|js (qg (σ:=[(0, 2)]) oF (shelf_pen_op_o0_con a0 ([] : Str) _ hx5) call51 (.cons ot (Ren.bp rfl) (.cons ot Ren.dat .nil)) .nil (.bld rfl .nil) (RenB.tup .nil))<|nt<|sr<|js (qc ot (fp pl79))<|js (qg (σ:=[(0, 2)]) oF (strings_Builder_String_con (T := 79) x4 _ hx7) call27 (.cons ot (Ren.bp rfl) .nil) .nil (.bldDead rfl .nil) RenB.dat)<|js (qb ot)<|js (qb oi)<|nt<|ct<|JE.retB rfl (RvOK.tmp rfl) (RvOK.tmp rfl)
theorem trystlaw20_awake_con (r) (hm : trystlaw20_awake = some r) : PC 10 [] (D RBool r) := by
 refine PI func10 fun w O=>?_
 unfold trystlaw20_awake at hm
 obtain ⟨x1,hx2,hm⟩ :=ob hm
 obtain ⟨x3,hx4,hm⟩ :=ob hm
 obtain ⟨x5,hx6,hm⟩ :=ob hm
 cases hm
 exact sr<|js (qb oB)<|nt<|sr<|js (qF pl28 zero28 Fill.nil)<|js (qe oF (shelf_Lay_con z_api_Router _ hx2) call8 (ze zn))<|js (qa ot)<|js (qu ot)<|js (qu ot)<|js (qb ot)<|js (qb ot)<|nt<|sr<|js (qF pl48 zero48 (Fill.cons rfl oi fs_api_Op_0 Fill.nil))<|js (qe oF (shelf_LayOp_con (⟨(10 : Int), [], z_api_Def, false, 0, 0⟩ : api_Op) _ hx4) call15 (ze zn))<|js (qa ot)<|js (qu ot)<|js (qu ot)<|js (qb ot)<|js (qb ot)<|nt<|sr<|js (qe oF (shelf_Take_con ([] : Str) _ hx6) call11 (zc (zo oS) zn))<|js (qa ot)<|js (qu ot)<|js (qu ot)<|js (qp (i:=1) zero28)<|js (qo ot ot ty28)<|js (qb ot)<|nt<|sr<|js (qa ot)<|js (qz ot oS)<|js (qa ot)<|jg (fun hg7=>qa ot)<|jg (fun hg8=>qy (ow hg8) oi)<|js (ql ot (fun hk9 => ow hk9))<|js (qa ot)<|jg (fun hg10=>qa ot)<|jg (fun hg11=>qz (ow hg11) oS)<|js (ql ot (fun hk12 => ow hk12))<|js (qa ot)<|jg (fun hg13=>qa ot)<|jg (fun hg14=>qy (ow hg14) oi)<|js (ql ot (fun hk15 => ow hk15))<|js (qa ot)<|jg (fun hg16=>qa ot)<|jg (fun hg17=>qy (ow hg17) oi)<|js (ql ot (fun hk18 => ow hk18))<|js (qa ot)<|js (qm ot (fun _ => oB))<|js (qa ot)<|js (qm ot (fun _ => oB))<|js (qa ot)<|js (qm ot (fun _ => oB))<|js (qb ot)<|nt<|ct<|JE.retA rfl (RvOK.tmp rfl)
theorem shelf_eye_truth_o0_con (o0) (r) (hm : shelf_eye_truth_o0 o0 = some r) : SC 108 [(0,Box R_shelf_eye 97 o0)] [BP 0 0] [(0,Box R_shelf_eye 97 r.2)] (D RBool r.1) := by
 refine SI func108 (fun gs=>[(0, BoxAt (IsV (gs 0)) R_shelf_eye 97 o0)]) (fun gs=>(.box .nil)) fun w O gs own hk=>?_
 unfold shelf_eye_truth_o0 at hm
 obtain ⟨hb3,hm⟩ :=og hm
 obtain ⟨x6,hx7,hm⟩ :=ob hm
 refine sr<|js (qb oB)<|nt<|sr<|js (qa ot)<|js (qt ot)<|js (qc ot (fp pl97))<|js (qd ot fo_shelf_eye_0 ty9)<|js (qb ot)<|nt<|cs<|sr<|js (qa ot)<|js (qa ot)<|js (qQ ot oS)<|js (qa ot)<|jg (fun hg1=>qa ot)<|jg (fun hg2=>qU (ow hg2) oi u9 (hb3 hg2))<|jg (fun hg4=>qN (ow hg4) oi)<|js (ql ot (fun hk5 => ow hk5))<|js (qg (σ:=[(0, 0)]) oF (shelf_eye_past_o0_con (1 : Int) (((shelf_eye.rest_ o0) != ([] : Str)) && (decide ((sAt (shelf_eye.rest_ o0) (0 : Int)) ≤ (1 : Int)))) o0 _ hx7) call158 (.cons ot (Ren.bp rfl) (.cons oi Ren.dat (.cons ot Ren.dat .nil))) .nil (.box rfl .nil) RenB.dat)<|js (qr ot)<|nt<|cn ot hm (fun hc8 hm=>?_) fun hc8 hm=>?_
 ·cases hm
  exact sr<|js (qb oB)<|nt<|ct<|tr<|JE.retSA hk (.box rfl .nil) (.box rfl .nil) rfl (RvS.tmp rfl)
 ·obtain ⟨hb9,hm⟩ :=og hm
  cases hm
  exact ck<|tn<|sr<|js (qa ot)<|js (qU ot oi u9 hb9)<|js (qy ot oi)<|js (qb ot)<|nt<|ct<|JE.retSA hk (.box rfl .nil) (.box rfl .nil) rfl (RvS.tmp rfl)
theorem shelf_eye_op_o0_con (o0) (r) (hm : shelf_eye_op_o0 o0 = some r) : SC 52 [(0,Box R_shelf_eye 97 o0)] [BP 0 0] [(0,Box R_shelf_eye 97 r.2)] (D R_api_Op r.1) := by
 refine SI func52 (fun gs=>[(0, BoxAt (IsV (gs 0)) R_shelf_eye 97 o0)]) (fun gs=>(.box .nil)) fun w O gs own hk=>?_
 unfold shelf_eye_op_o0 at hm
 obtain ⟨x1,hx2,hm⟩ :=ob hm
 obtain ⟨x3,hx4,hm⟩ :=ob hm
 obtain ⟨x5,hx6,hm⟩ :=ob hm
 obtain ⟨x7,hx8,hm⟩ :=ob hm
 obtain ⟨x9,hx10,hm⟩ :=ob hm
 refine sr<|js (qp (i:=2) zero48)<|nt<|sr<|js (qp (i:=3) zero48)<|nt<|sr<|js (qa ot)<|js (qg (σ:=[(0, 0)]) oF (shelf_eye_number_o0_con o0 _ hx2) call83 (.cons ot (Ren.bp rfl) .nil) .nil (.box rfl .nil) RenB.dat)<|js (qc ot (fp pl48))<|js (qv ot ot fs_api_Op_0 ty3)<|nt<|sr<|js (qa ot)<|js (qg (σ:=[(0, 0)]) oF (shelf_eye_text_o0_con x1.2 _ hx4) call107 (.cons ot (Ren.bp rfl) .nil) .nil (.box rfl .nil) RenB.dat)<|js (qc ot (fp pl48))<|js (qv ot ot fs_api_Op_1 ty9)<|nt<|sr<|js (qa ot)<|js (qg (σ:=[(0, 0)]) oF (shelf_eye_truth_o0_con x3.2 _ hx6) call108 (.cons ot (Ren.bp rfl) .nil) .nil (.box rfl .nil) RenB.dat)<|js (qc ot (fp pl48))<|js (qv ot ot fs_api_Op_3 ty4)<|nt<|sr<|js (qa ot)<|js (qg (σ:=[(0, 0)]) oF (shelf_eye_id_o0_con x5.2 _ hx8) call109 (.cons ot (Ren.bp rfl) .nil) .nil (.box rfl .nil) RenB.dat)<|js (qc ot (fp pl48))<|js (qv ot ot fs_api_Op_4 ty46)<|nt<|sr<|js (qa ot)<|js (qg (σ:=[(0, 0)]) oF (shelf_eye_number_o0_con x7.2 _ hx10) call83 (.cons ot (Ren.bp rfl) .nil) .nil (.box rfl .nil) RenB.dat)<|js (qc ot (fp pl48))<|js (qv ot ot fs_api_Op_5 ty3)<|nt<|cs<|sr<|js (qc ot (fp pl48))<|js (qd ot fo_api_Op_0 ty3)<|js (qy ot oi)<|nt<|cn ot hm (fun hc11 hm=>?_) fun hc11 hm=>?_
 ·obtain ⟨x12,hx13,hm⟩ :=ob hm
  cases hm
  exact cr<|js (qa ot)<|js (qg (σ:=[(0, 0)]) oF (shelf_eye_def_o0_con x9.2 _ hx13) call110 (.cons ot (Ren.bp rfl) .nil) .nil (.box rfl .nil) RenB.dat)<|js (qc ot (fp pl48))<|js (qv ot ot fs_api_Op_2 ty45)<|nt<|sr<|js (qn ot ty48)<|js (qo ot ot ty48)<|nt<|ct<|JE.retSA hk (.box rfl .nil) (.box rfl .nil) rfl (RvS.cell rfl rfl ty48)
 ·cases hm
  exact ck<|tn<|sr<|js (qn ot ty48)<|js (qo ot ot ty48)<|nt<|ct<|JE.retSA hk (.box rfl .nil) (.box rfl .nil) rfl (RvS.cell rfl rfl ty48)
theorem shelf_TakeOp_con (a0) (r) (hm : shelf_TakeOp a0 = some r) : PC 17 [D RStr a0] (TUP [D R_api_Op r.1,D (RInt .i64) r.2]) := by
 refine PI func17 fun w O=>?_
 unfold shelf_TakeOp at hm
 obtain ⟨x1,hx2,hm⟩ :=ob hm
 obtain ⟨x5,hx6,hm⟩ :=ob hm
 refine sr<|js (qp (i:=1) zero48)<|js (qb oi)<|nt<|sr<|js (qa ot)<|js (qF pl97 zero97 (Fill.cons rfl ot fs_shelf_eye_0 Fill.nil))<|js (qp (i:=2) zero97)<|js (qo ot ot ty97)<|nt<|sr<|js (qg (σ:=[(0, 2)]) oF (shelf_eye_op_o0_con (⟨a0, false⟩ : shelf_eye) _ hx2) call52 (.cons ot (Ren.bp rfl) .nil) .nil (.box rfl .nil) RenB.dat)<|js (qp (i:=3) zero48)<|js (qo ot ot ty48)<|nt<|cs<|sr<|js (qL (F:=[2]) oF (shelf_eye_whole_con x1.2 _ rfl) call36 (zc (OpdF.bp ot rfl FieldOf.self rfl) zn) FzE.nil WI.bool)<|js (qr ot)<|js (qa ot)<|jg (fun hg3=>qn ot ty48)<|jg (fun hg4=>qe oF (shelf_May_con x1.1 _ (of_pos hg4 hx6)) call50 (zc (zo (ow hg4)) zn))<|jg (fun hg7=>qr (ow hg7))<|js (qm ot (fun hk8 => ow hk8))<|nt<|cn ot hm (fun hc9 hm=>?_) fun hc9 hm=>?_
 ·cases hm
  exact sr<|js (qF pl48 zero48 Fill.nil)<|js (qo ot ot ty48)<|js (qb oi)<|nt<|ct<|tr<|JE.retB rfl (RvOK.cell rfl rfl ty48) (RvOK.tmp rfl)
 ·cases hm
  exact ck<|tn<|sr<|js (qn ot ty48)<|js (qo ot ot ty48)<|js (qb oi)<|nt<|ct<|JE.retB rfl (RvOK.cell rfl rfl ty48) (RvOK.tmp rfl)
theorem trystlaw20_ShelfShort_con (a0) (a1) (a2) (r) (hm : trystlaw20_ShelfShort a0 a1 a2 = some r) : PC 6 [D R_api_Router a0,D R_api_Op a1,D (RInt .u8) a2] (D RBool r) := by
 refine PI func6 fun w O=>?_
 unfold trystlaw20_ShelfShort at hm
 obtain ⟨x1,hx2,hm⟩ :=ob hm
 refine sr<|js (qq (i:=1) ot)<|js (qq (i:=2) ot)<|js (qb oB)<|nt<|cs<|cd mixed (db [3] [1] [] (gu (qn ot ty28))<|da [20] (gu (qe oF (trystlaw16_Few_con a0 _ hx2) call7 (zc (zo ot) zn)))<|db [4] [2] [] (gu (qn ot ty48))<|an)<|jv [2,3,4,21,22] [1,2] ?_
 obtain ⟨x3,hx4,hm⟩ :=ob hm
 obtain ⟨x5,hx6,hm⟩ :=ob hm
 obtain ⟨e25,hj23,hm⟩ :=ob hm
 refine js (qe oF (trystlaw20_Cut_con a1 _ hx4) call14 (ze zn))<|js (qo ot ot ty28)<|js (qo ot ot ty48)<|nt<|sr<|js (qn ot ty28)<|js (qe oF (shelf_Lay_con x1 _ hx6) call8 (ze zn))<|js (qa ot)<|js (qu ot)<|js (qu ot)<|js (qb ot)<|js (qb ot)<|nt<|cs<|sr<|js (qa ot)<|js (vS ot oi (by decide))<|js (qA ot u5 u3)<|js (qk oi ot)<|js (qb ot)<|nt<|sr<|js (qa ot)<|js (qy ot oi)<|js (qa ot)<|jg (fun hg7=>qa ot)<|jg (fun hg8=>qa ot)<|jg (fun hg9=>qD (ow hg9) u9)<|jg (fun hg10=>qN (ow hg10) (ow hg10))<|js (ql ot (fun hk11 => ow hk11))<|nt<|JC.joinS e25 (fun s49=>[(4, BP 2 0)]) (fun s49=>[(2, Box R_api_Op 48 x3)]) (fun s49 he=>?_) (fun _ hK24=>?_)
 ·cases he
  try dsimp only at hm
  obtain ⟨x26,hx27,hm⟩ :=ob hm
  refine tn<|sr<|js (qn ot ty48)<|js (qe oF (shelf_LayOp_con x3 _ hx27) call15 (ze zn))<|js (qa ot)<|js (qu ot)<|js (qu ot)<|js (qb ot)<|js (qb ot)<|nt<|cs<|sr<|js (qa ot)<|js (qw ot oi)<|js (qa ot)<|jg (fun hg28=>qa ot)<|jg (fun hg29=>qz (ow hg29) oS)<|js (qm ot (fun hk30 => ow hk30))<|nt<|cn ot hm (fun hc31 hm=>?_) fun hc31 hm=>?_
  ·obtain ⟨x33,hx34,hm⟩ :=ob hm
   cases hm
   exact sr<|js (qa ot)<|js (qy ot oi)<|js (qa ot)<|jg (fun hg32=>qe oF (trystlaw20_awake_con  _ (of_pos hg32 hx34)) call10 zn)<|js (ql ot (fun hk35 => ow hk35))<|js (qb ot)<|nt<|ct<|tr<|JE.retA rfl (RvOK.tmp rfl)
  ·obtain ⟨hb36,hm⟩ :=og hm
   obtain ⟨x37,hx38,hm⟩ :=ob hm
   obtain ⟨hb39,hm⟩ :=og hm
   obtain ⟨x40,hx41,hm⟩ :=ob hm
   obtain ⟨x46,hx47,hm⟩ :=ob hm
   cases hm
   exact ck<|tn<|sr<|js (qa ot)<|js (qa ot)<|js (qD ot u9)<|js (qE ot oi)<|js (qP ot ot u9 hb36)<|js (qe oF (shelf_TakeOp_con (List.take (Int.toNat (IntKind.i64.wrap ((List.length x26.1 : Int) - (1 : Int)))) x26.1) _ hx38) call17 (ze zn))<|js (qa ot)<|js (qu ot)<|js (qu ot)<|js (qp (i:=5) zero48)<|js (qo ot ot ty48)<|js (qb ot)<|nt<|sr<|js (qa ot)<|js (qM ot oS hb39)<|js (qe oF (shelf_TakeOp_con (x26.1 ++ ([0] : Str)) _ hx41) call17 (ze zn))<|js (qa ot)<|js (qu ot)<|js (qu ot)<|js (qp (i:=6) zero48)<|js (qo ot ot ty48)<|js (qb ot)<|nt<|sr<|js (qa ot)<|js (qy ot oi)<|js (qa ot)<|jg (fun hg42=>qa ot)<|jg (fun hg43=>qy (ow hg43) oi)<|js (ql ot (fun hk44 => ow hk44))<|js (qa ot)<|jg (fun hg45=>qe oF (trystlaw20_awake_con  _ (of_pos hg45 hx47)) call10 zn)<|js (ql ot (fun hk48 => ow hk48))<|js (qb ot)<|nt<|ct<|JE.retA rfl (RvOK.tmp rfl)
 ·refine cn ot hj23 (fun hc50 hj23=>?_) fun hc50 hj23=>?_
  ·obtain ⟨hb51,hj23⟩ :=og hj23
   obtain ⟨x52,hx53,hj23⟩ :=ob hj23
   obtain ⟨hb54,hj23⟩ :=og hj23
   obtain ⟨x55,hx56,hj23⟩ :=ob hj23
   refine sr<|js (qa ot)<|js (qa ot)<|js (qD ot u9)<|js (qa ot)<|js (qE ot ot)<|js (qP ot ot u9 hb51)<|js (qe oF (shelf_Take_con (List.take (Int.toNat (IntKind.i64.wrap ((List.length x5.1 : Int) - (IntKind.i64.wrap ((1 : Int) + (IntKind.i64.wrap (Int.tmod a2 (30 : Int)))))))) x5.1) _ hx53) call11 (ze zn))<|js (qa ot)<|js (qu ot)<|js (qu ot)<|js (qp (i:=7) zero28)<|js (qo ot ot ty28)<|js (qb ot)<|nt<|sr<|js (qa ot)<|js (qM ot oS hb54)<|js (qe oF (shelf_Take_con (x5.1 ++ ([0] : Str)) _ hx56) call11 (ze zn))<|js (qa ot)<|js (qu ot)<|js (qu ot)<|js (qp (i:=8) zero28)<|js (qo ot ot ty28)<|js (qb ot)<|nt<|sr<|js (qa ot)<|js (qw ot oi)<|js (qa ot)<|jg (fun hg57=>qa ot)<|jg (fun hg58=>qw (ow hg58) oi)<|js (qm ot (fun hk59 => ow hk59))<|nt<|cn ot hj23 (fun hc60 hj23=>?_) fun hc60 hj23=>?_
   ·cases hj23
    cases hm
    exact sr<|js (qb oB)<|nt<|ct<|tr<|tr<|JE.retA rfl (RvOK.tmp rfl)
   ·cases hj23
    exact ck<|mt (hK24 _ rfl)
  ·cases hj23
   exact ck<|mt (hK24 _ rfl)
end Go.Proofs
