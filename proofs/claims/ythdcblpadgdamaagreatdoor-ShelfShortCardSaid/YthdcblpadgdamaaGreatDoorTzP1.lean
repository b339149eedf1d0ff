import Derived.Test.YthdcblpadgdamaaGreatDoorTzF
set_option linter.all false
set_option maxRecDepth 100000
set_option maxHeartbeats 4000000
namespace Go.Proofs
open Go Go.Trw Tryz
theorem trystlaw02_Few_con (a0) (r) (hm : trystlaw02_Few a0 = some r) : PC 24 [D RStr a0] (D RStr r) := by
 refine PI func24 fun w O=>?_
 unfold trystlaw02_Few at hm
 refine sr<|js (qb oS)<|nt<|cs<|sr<|js (qa ot)<|js (qD ot u9)<|js (qs ot oi)<|nt<|cn ot hm (fun hc1 hm=>?_) fun hc1 hm=>?_
 ·obtain ⟨hb2,hm⟩ :=og hm
  cases hm
  exact sr<|js (qa ot)<|js (qP ot oi u9 hb2)<|js (qb ot)<|nt<|ct<|tr<|JE.retA rfl (RvOK.tmp rfl)
 ·cases hm
  exact ck<|tn<|sr<|js (qa ot)<|js (qb ot)<|nt<|ct<|JE.retA rfl (RvOK.tmp rfl)
theorem trystlaw12_Few__own_con (a0) (r) (hm : trystlaw12_Few__own a0 = some r) : SC 18 [] [D (RSlice R_api_Topic) a0] [(0,OwnSl R_api_Topic 62 r)] (OS 0) := by
 refine SI func18 (fun gs=>[]) (fun gs=>.nil) fun w O gs own hk=>?_
 unfold trystlaw12_Few__own at hm
 obtain ⟨v111,hl112,hm⟩ :=ob hm
 refine sr<|js (qK (j:=2) (R:=R_api_Topic) (E:=62) (.inr rfl))<|nt<|sr<|js (qK (j:=3) (R:=R_api_Topic) (E:=62) (.inr rfl))<|nt<|cs<|sr<|js (qb oi)<|nt<|JC.join [(3, OS 3)] [(3, OwnSl R_api_Topic 62 v111)] ?_ (fun _ hK113=>?_)
 ·refine tn<|sr<|js (qa ot)<|js (qb ot)<|nt<|ct ?_
  refine JE.convR (Γ' := [(2, OS 0)]) (Ω' := [(0, OwnSl R_api_Topic 62 v111)]) [(0, 3)] (by decide) (by decide) (CVR.cons (t := 2) rfl (Ren.os rfl) CVR.nil) (OVR.cons (i := 3) rfl RenO.sl OVR.nil) ?_
  cases hm
  exact JE.retSA hk .nil (.same rfl .nil) rfl (RvS.os rfl)
 ·refine cb<|JC.loop _ (fun s119=>[(0, D (RSlice R_api_Topic) a0), (3, OS 3), (4, D (RInt .i64) s119.1)]) (fun s119=>[(3, OwnSl R_api_Topic 62 s119.2)]) _ ?_ _ hl112 ml
  intro s119 r118 _ hs115 hB116 hE117
  obtain ⟨v55, v56⟩ := s119
  try dsimp only at hs115
  refine cs<|sr<|js (qa ot)<|js (qa ot)<|js (qf ot u22)<|js (qh ot ot)<|js (qa ot)<|jg (fun hg121=>qa ot)<|jg (fun hg122=>qh (ow hg122) oi)<|js (ql ot (fun hk123 => ow hk123))<|nt<|cn ot hs115 (fun hc124 hs115=>?_) fun hc124 hs115=>?_
  ·obtain ⟨hb125,hs115⟩ :=og hs115
   obtain ⟨x126,hx127,hs115⟩ :=ob hs115
   obtain ⟨hb128,hs115⟩ :=og hs115
   refine ck<|tn<|cs<|cb<|cs<|cd mixed (da [0] (gu (qa ot))<|da [4] (gu (qa ot))<|da [18,19] (gu (qj ot ot u22 ty62 hb125))<|da [20] (gu (qx ot (fp pl62) fo_api_Topic_0))<|da [21] (gu (qi ot ty9))<|da [22] (gu (qe oF (trystlaw02_Few_con (api_Topic.Name (nth a0 v55)) _ hx127) call24 (zc (zo ot) zn)))<|da [0] (gu (qa ot))<|da [4] (gu (qa ot))<|da [24,25] (gu (qj ot ot u22 ty62 hb128))<|da [26] (gu (qx ot (fp pl62) fo_api_Topic_1))<|da [27] (gu (qi ot ty3))<|da [23,28] (gu (qF pl62 zero62n2 (Fill.cons rfl ot (FieldSet.nilAt fs_api_Topic_0 rfl) (Fill.cons rfl ot (FieldSet.nilAt fs_api_Topic_1 rfl) Fill.nil))))<|dd [] [] [22] (gu (qp (i:=22) zero62))<|an)<|jv [0,3,4,5,29] [3,22] ?_
   refine js (vl ot ot ty62) ?_
   refine JL.imp (Imp.openP 22 23 9 RStr (hs2 := [(2, OS 23)]) rfl rfl rfl (by rfl) (by rfl) (by exact (.cons rfl .nil))) ?_
   refine JL.imp (Imp.openEnd 22 rfl) ?_
   obtain ⟨v153,hl154,hs115⟩ :=ob hs115
   refine nt<|cs<|sr<|js (qb oi)<|nt<|JC.join [(0, D (RSlice R_api_Topic) a0), (3, OS 3), (4, D (RInt .i64) v55), (5, BP 22 0)] [(3, OwnSl R_api_Topic 62 v56), (22, BoxH Any R_api_Topic 62 (⟨x126, api_Topic.First (nth a0 v55), []⟩ : api_Topic) [(2, OS 23)]), (23, OwnSl RStr 9 v153)] ?_ (fun _ hK155=>?_)
   ·refine tn<|cr<|js (qa ot) ?_
    refine JL.imp (Imp.frzH 22 23 (o := 2) (ts := []) rfl rfl rfl (by rfl) fs_api_Topic_2 (by rfl) .nil) ?_
    refine JL.imp (Imp.asBox 22 rfl) ?_
    obtain ⟨hb163,hs115⟩ :=og hs115
    cases hs115
    refine js (qn ot ty62)<|js (qC u22 ty62 hz62 (.cons ot .nil))<|js (qB (j:=28) ot ot u22 sl62 hb163)<|js (qb ot)<|jn<|bn<|tn<|cr<|js (qa ot)<|js (qk ot oi)<|js (qb ot)<|jn ?_
    exact JE.meetR [(3, 28)] (hB116 _ rfl) (by decide) (by decide) (CVR.cons (t := 0) rfl Ren.dat (CVR.cons (t := 3) rfl (Ren.os rfl) (CVR.cons (t := 4) rfl Ren.dat CVR.nil))) (OVR.cons (i := 28) rfl RenO.sl OVR.nil)
   ·refine cb<|JC.loop _ (fun s161=>[(0, D (RSlice R_api_Topic) a0), (3, OS 3), (4, D (RInt .i64) v55), (5, BP 22 0), (6, D (RInt .i64) s161.1)]) (fun s161=>[(3, OwnSl R_api_Topic 62 v56), (22, BoxH Any R_api_Topic 62 (⟨x126, api_Topic.First (nth a0 v55), []⟩ : api_Topic) [(2, OS 23)]), (23, OwnSl RStr 9 s161.2)]) _ ?_ _ hl154 ml
    intro s161 r160 _ hs157 hB158 hE159
    obtain ⟨v140, v141⟩ := s161
    try dsimp only at hs157
    obtain ⟨hb164,hs157⟩ :=og hs157
    refine cs<|sr<|js (qa ot)<|js (qa ot)<|js (qa ot)<|js (qj ot ot u22 ty62 hb164)<|js (qx ot (fp pl62) fo_api_Topic_2)<|js (qi ot ty40)<|js (qf ot u40)<|js (qh ot ot)<|js (qa ot)<|jg (fun hg165=>qa ot)<|jg (fun hg166=>qh (ow hg166) oi)<|js (ql ot (fun hk167 => ow hk167))<|nt<|cn ot hs157 (fun hc168 hs157=>?_) fun hc168 hs157=>?_
    ·obtain ⟨hb169,hs157⟩ :=og hs157
     obtain ⟨hb170,hs157⟩ :=og hs157
     refine ck<|tn<|cs<|cb<|sr<|js (qa ot)<|js (qa ot)<|js (qj ot ot u22 ty62 hb169)<|js (qx ot (fp pl62) fo_api_Topic_2)<|js (qi ot ty40)<|js (qa ot)<|js (qj ot ot u40 ty9 hb170)<|js (qi ot ty9)<|js (qb ot)<|nt<|cs<|sr<|js (qa ot)<|js (qD ot u9)<|js (qs ot oi)<|nt<|cn ot hs157 (fun hc171 hs157=>?_) fun hc171 hs157=>?_
     ·obtain ⟨hb172,hs157⟩ :=og hs157
      obtain ⟨hb173,hs157⟩ :=og hs157
      cases hs157
      refine cr<|js (qa ot)<|js (qP ot oi u9 hb172)<|js (qb ot)<|nt<|cr<|js (qc ot (fp pl62))<|js (qJ ot ty40)<|js (qa ot)<|js (qC u40 ty9 hz9 (.cons ot .nil))<|js (qB (j:=29) ot ot u40 sl9 hb173)<|js (qc ot (fp pl62))<|js (qO (hs2:=[(2, OS 29)]) ot ot fs_api_Topic_2 ty40)<|jn<|bn<|tn<|cr<|js (qa ot)<|js (qk ot oi)<|js (qb ot)<|jn ?_
      exact JE.meetR [(3, 3), (22, 22), (23, 29)] (hB158 _ rfl) (by decide) (by decide) (CVR.cons (t := 0) rfl Ren.dat (CVR.cons (t := 3) rfl (Ren.os rfl) (CVR.cons (t := 4) rfl Ren.dat (CVR.cons (t := 5) rfl (Ren.bp rfl) (CVR.cons (t := 6) rfl Ren.dat CVR.nil))))) (OVR.cons (i := 3) rfl RenO.sl (OVR.cons (i := 22) rfl (RenO.boxH (.cons (Ren.os rfl) .nil)) (OVR.cons (i := 29) rfl RenO.sl OVR.nil)))
     ·obtain ⟨hb174,hs157⟩ :=og hs157
      cases hs157
      refine ck<|tn<|cr<|js (qc ot (fp pl62))<|js (qJ ot ty40)<|js (qa ot)<|js (qC u40 ty9 hz9 (.cons ot .nil))<|js (qB (j:=30) ot ot u40 sl9 hb174)<|js (qc ot (fp pl62))<|js (qO (hs2:=[(2, OS 30)]) ot ot fs_api_Topic_2 ty40)<|jn<|bn<|tn<|cr<|js (qa ot)<|js (qk ot oi)<|js (qb ot)<|jn ?_
      exact JE.meetR [(3, 3), (22, 22), (23, 30)] (hB158 _ rfl) (by decide) (by decide) (CVR.cons (t := 0) rfl Ren.dat (CVR.cons (t := 3) rfl (Ren.os rfl) (CVR.cons (t := 4) rfl Ren.dat (CVR.cons (t := 5) rfl (Ren.bp rfl) (CVR.cons (t := 6) rfl Ren.dat CVR.nil))))) (OVR.cons (i := 3) rfl RenO.sl (OVR.cons (i := 22) rfl (RenO.boxH (.cons (Ren.os rfl) .nil)) (OVR.cons (i := 30) rfl RenO.sl OVR.nil)))
    ·cases hs157
     cases (hE159 _ rfl)
     exact cx<|tx<|tx<|bx<|mt hK155
  ·cases hs115
   cases (hE117 _ rfl)
   exact cx<|tx<|tx<|bx<|mt hK113
theorem trystlaw13_Few_con (a0) (r) (hm : trystlaw13_Few a0 = some r) : PC 19 [D (RSlice R_api_Last) a0] (D (RSlice R_api_Last) r) := by
 refine PI func19 fun w O=>?_
 unfold trystlaw13_Few at hm
 obtain ⟨v19,hl20,hm⟩ :=ob hm
 refine sr<|js (qb (Opd.nil (R := R_api_Last)))<|nt<|sr<|js (qK (j:=1) (R:=R_api_Last) (E:=102) (.inr rfl))<|nt<|cs<|sr<|js (qb oi)<|nt<|JC.join [(3, OS 1)] [(1, OwnSl R_api_Last 102 v19)] ?_ (fun _ hK21=>?_)
 ·refine tn<|sr<|js (qa ot)<|js (qb ot)<|nt<|ct ?_
  refine JE.imp (Imp.frz 1 (ts := [3, 28, 2]) rfl (.cons rfl (.cons rfl (.cons rfl .nil)))) ?_
  cases hm
  exact JE.retA rfl (RvOK.tmp rfl)
 ·refine cb<|JC.loop _ (fun s27=>[(0, D (RSlice R_api_Last) a0), (3, OS 1), (4, D (RInt .i64) s27.1)]) (fun s27=>[(1, OwnSl R_api_Last 102 s27.2)]) _ ?_ _ hl20 ml
  intro s27 r26 _ hs23 hB24 hE25
  obtain ⟨v9, v10⟩ := s27
  try dsimp only at hs23
  refine cs<|sr<|js (qa ot)<|js (qa ot)<|js (qf ot u23)<|js (qh ot ot)<|js (qa ot)<|jg (fun hg29=>qa ot)<|jg (fun hg30=>qh (ow hg30) oi)<|js (ql ot (fun hk31 => ow hk31))<|nt<|cn ot hs23 (fun hc32 hs23=>?_) fun hc32 hs23=>?_
  ·obtain ⟨hb33,hs23⟩ :=og hs23
   obtain ⟨x34,hx35,hs23⟩ :=ob hs23
   obtain ⟨hb36,hs23⟩ :=og hs23
   cases hs23
   refine ck<|tn<|cs<|cb<|sr<|js (qa ot)<|js (qa ot)<|js (qj ot ot u23 ty102 hb33)<|js (qi ot ty102)<|js (qp (i:=6) zero102)<|js (qo ot ot ty102)<|nt<|sr<|js (qc ot (fp pl102))<|js (qd ot fo_api_Last_0 ty9)<|js (qe oF (trystlaw02_Few_con (api_Last.Producer (nth a0 v9)) _ hx35) call24 (ze zn))<|js (qc ot (fp pl102))<|js (qv ot ot fs_api_Last_0 ty9)<|nt<|cr<|js (qa ot)<|js (qn ot ty102)<|js (qC u23 ty102 hz102 (.cons ot .nil))<|js (qB (j:=7) ot ot u23 sl102 hb36)<|js (qb ot)<|jn<|bn<|tn<|cr<|js (qa ot)<|js (qk ot oi)<|js (qb ot)<|jn ?_
   exact JE.meetR [(1, 7)] (hB24 _ rfl) (by decide) (by decide) (CVR.cons (t := 0) rfl Ren.dat (CVR.cons (t := 3) rfl (Ren.os rfl) (CVR.cons (t := 4) rfl Ren.dat CVR.nil))) (OVR.cons (i := 7) rfl RenO.sl OVR.nil)
  ·cases hs23
   cases (hE25 _ rfl)
   exact cx<|tx<|tx<|bx<|mt hK21
theorem trystlaw15_One_con (a0) (r) (hm : trystlaw15_One a0 = some r) : PC 53 [D R_api_Out a0] (D R_api_Out r) := by
 refine PI func53 fun w O=>?_
 unfold trystlaw15_One at hm
 obtain ⟨x1,hx2,hm⟩ :=ob hm
 refine sr<|js (qq (i:=1) ot)<|js (qp (i:=2) zero88)<|nt<|sr<|js (qc ot (fp pl88))<|js (qd ot fo_api_Out_1 ty9)<|js (qe oF (trystlaw02_Few_con (api_Out.Sub a0) _ hx2) call24 (ze zn))<|js (qc ot (fp pl88))<|js (qv ot ot fs_api_Out_1 ty9)<|nt<|cs<|sr<|js (qc ot (fp pl88))<|js (qd ot fo_api_Out_2 ty86)<|js (qf ot u86)<|js (qs ot oi)<|nt<|cn ot hm (fun hc3 hm=>?_) fun hc3 hm=>?_
 ·obtain ⟨hb4,hm⟩ :=og hm
  obtain ⟨hb5,hm⟩ :=og hm
  refine cr<|js (qc ot (fp pl88))<|js (qd ot fo_api_Out_2 ty86)<|js (qZ ot oi u86 ty46 hb4)<|js (qc ot (fp pl88))<|js (qv ot ot fs_api_Out_2 ty86)<|nt<|sr<|js (qV (j:=3) u86 ty46 hz46 .nil)<|js (qc ot (fp pl88))<|js (qd ot fo_api_Out_2 ty86)<|js (qB (j:=4) ot ot u86 sl46 hb5)<|js (qc ot (fp pl88)) ?_
  refine JL.imp (Imp.frz 4 (ts := [18]) rfl (.cons rfl .nil)) ?_
  cases hm
  exact js (qv ot ot fs_api_Out_2 ty86)<|nt<|sr<|js (qn ot ty88)<|js (qo ot ot ty88)<|nt<|ct<|JE.retA rfl (RvOK.cell rfl rfl ty88)
 ·obtain ⟨hb6,hm⟩ :=og hm
  refine ck<|tn<|sr<|js (qV (j:=5) u86 ty46 hz46 .nil)<|js (qc ot (fp pl88))<|js (qd ot fo_api_Out_2 ty86)<|js (qB (j:=6) ot ot u86 sl46 hb6)<|js (qc ot (fp pl88)) ?_
  refine JL.imp (Imp.frz 6 (ts := [18]) rfl (.cons rfl .nil)) ?_
  cases hm
  exact js (qv ot ot fs_api_Out_2 ty86)<|nt<|sr<|js (qn ot ty88)<|js (qo ot ot ty88)<|nt<|ct<|JE.retA rfl (RvOK.cell rfl rfl ty88)
theorem trystlaw15_Few_con (a0) (r) (hm : trystlaw15_Few a0 = some r) : PC 20 [D (RSlice R_api_Out) a0] (D (RSlice R_api_Out) r) := by
 refine PI func20 fun w O=>?_
 unfold trystlaw15_Few at hm
 obtain ⟨v19,hl20,hm⟩ :=ob hm
 refine sr<|js (qb (Opd.nil (R := R_api_Out)))<|nt<|sr<|js (qK (j:=1) (R:=R_api_Out) (E:=88) (.inr rfl))<|nt<|cs<|sr<|js (qb oi)<|nt<|JC.join [(3, OS 1)] [(1, OwnSl R_api_Out 88 v19)] ?_ (fun _ hK21=>?_)
 ·refine tn<|sr<|js (qa ot)<|js (qb ot)<|nt<|ct ?_
  refine JE.imp (Imp.frz 1 (ts := [3, 23, 2]) rfl (.cons rfl (.cons rfl (.cons rfl .nil)))) ?_
  cases hm
  exact JE.retA rfl (RvOK.tmp rfl)
 ·refine cb<|JC.loop _ (fun s27=>[(0, D (RSlice R_api_Out) a0), (3, OS 1), (4, D (RInt .i64) s27.1)]) (fun s27=>[(1, OwnSl R_api_Out 88 s27.2)]) _ ?_ _ hl20 ml
  intro s27 r26 _ hs23 hB24 hE25
  obtain ⟨v9, v10⟩ := s27
  try dsimp only at hs23
  refine cs<|sr<|js (qa ot)<|js (qa ot)<|js (qf ot u25)<|js (qh ot ot)<|js (qa ot)<|jg (fun hg29=>qa ot)<|jg (fun hg30=>qh (ow hg30) oi)<|js (ql ot (fun hk31 => ow hk31))<|nt<|cn ot hs23 (fun hc32 hs23=>?_) fun hc32 hs23=>?_
  ·obtain ⟨hb33,hs23⟩ :=og hs23
   obtain ⟨x34,hx35,hs23⟩ :=ob hs23
   obtain ⟨hb36,hs23⟩ :=og hs23
   cases hs23
   refine ck<|tn<|cs<|cb<|cr<|js (qa ot)<|js (qa ot)<|js (qa ot)<|js (qj ot ot u25 ty88 hb33)<|js (qi ot ty88)<|js (qe oF (trystlaw15_One_con (nth a0 v9) _ hx35) call53 (ze zn))<|js (qC u25 ty88 hz88 (.cons ot .nil))<|js (qB (j:=4) ot ot u25 sl88 hb36)<|js (qb ot)<|jn<|bn<|tn<|cr<|js (qa ot)<|js (qk ot oi)<|js (qb ot)<|jn ?_
   exact JE.meetR [(1, 4)] (hB24 _ rfl) (by decide) (by decide) (CVR.cons (t := 0) rfl Ren.dat (CVR.cons (t := 3) rfl (Ren.os rfl) (CVR.cons (t := 4) rfl Ren.dat CVR.nil))) (OVR.cons (i := 4) rfl RenO.sl OVR.nil)
  ·cases hs23
   cases (hE25 _ rfl)
   exact cx<|tx<|tx<|bx<|mt hK21
theorem trystlaw09_Kind_con (a0) (r) (hm : trystlaw09_Kind a0 = some r) : PC 54 [D R_api_Join a0] (D R_api_Join r) := by
 refine PI func54 fun w O=>?_
 unfold trystlaw09_Kind at hm
 refine sr<|js (qq (i:=1) ot)<|js (qp (i:=2) zero43)<|nt<|cs<|sr<|js (qc ot (fp pl43))<|js (qd ot fo_api_Join_0 ty9)<|js (qD ot u9)<|js (qs ot oi)<|nt<|cn ot hm (fun hc1 hm=>?_) fun hc1 hm=>?_
 ·obtain ⟨hb2,hm⟩ :=og hm
  cases hm
  exact cr<|js (qc ot (fp pl43))<|js (qd ot fo_api_Join_0 ty9)<|js (qP ot oi u9 hb2)<|js (qc ot (fp pl43))<|js (qv ot ot fs_api_Join_0 ty9)<|nt<|sr<|js (qn ot ty43)<|js (qo ot ot ty43)<|nt<|ct<|JE.retA rfl (RvOK.cell rfl rfl ty43)
 ·cases hm
  exact ck<|tn<|sr<|js (qn ot ty43)<|js (qo ot ot ty43)<|nt<|ct<|JE.retA rfl (RvOK.cell rfl rfl ty43)
theorem trystlaw03_Few_con (a0) (r) (hm : trystlaw03_Few a0 = some r) : PC 56 [D R_api_Value a0] (D R_api_Value r) := by
 refine PI func56 fun w O=>?_
 unfold trystlaw03_Few at hm
 refine sr<|js (qq (i:=1) ot)<|js (qp (i:=2) zero118)<|nt<|cs<|sr<|js (qc ot (fp pl118))<|js (qd ot fo_api_Value_2 ty9)<|js (qD ot u9)<|js (qs ot oi)<|nt<|cn ot hm (fun hc1 hm=>?_) fun hc1 hm=>?_
 ·obtain ⟨hb2,hm⟩ :=og hm
  cases hm
  exact cr<|js (qc ot (fp pl118))<|js (qd ot fo_api_Value_2 ty9)<|js (qP ot oi u9 hb2)<|js (qc ot (fp pl118))<|js (qv ot ot fs_api_Value_2 ty9)<|nt<|sr<|js (qn ot ty118)<|js (qo ot ot ty118)<|nt<|ct<|JE.retA rfl (RvOK.cell rfl rfl ty118)
 ·cases hm
  exact ck<|tn<|sr<|js (qn ot ty118)<|js (qo ot ot ty118)<|nt<|ct<|JE.retA rfl (RvOK.cell rfl rfl ty118)
theorem trystlaw05_few_con : ∀ (n : Nat) (a0 : api_Pred) (a1 : Int) (a2 : Int) (r : (api_Pred × Int)) (hm : trystlaw05_few n a0 a1 a2 = some r), PCon Base prog 111 [D R_api_Pred a0, D (RInt .i64) a1, D (RInt .i64) a2] (TUP [D R_api_Pred r.1, D (RInt .i64) r.2]) := by
 intro n
 induction n with
 | zero => intro a0 a1 a2 r hm; rw [trystlaw05_few.eq_1] at hm; cases hm
 | succ n ih =>
  intro a0 a1 a2 r hm
  rw [trystlaw05_few.eq_2] at hm
  refine PI func111 fun w O=>?_
  obtain ⟨x1,hx2,hm⟩ :=ob hm
  obtain ⟨x3,hx4,hm⟩ :=ob hm
  refine sr<|js (qq (i:=1) ot)<|js (qp (i:=2) zero120)<|js (qb oi)<|nt<|cs<|cd mixed (da [3] (gu (qc (off:=0) ot (fp pl120)))<|db [12] [1] [] (gu (qd (get:=fun d => PT.Op d) ot fo_api_Pred_0 ty9))<|da [3] (gu (qc (off:=1) ot (fp pl120)))<|db [14] [1] [] (gu (qd (get:=fun d => PT.S d) ot fo_api_Pred_1 ty9))<|da [15] (gu (qe oF (trystlaw02_Few_con (PT.S a0) _ hx2) call24 (zc (zo ot) zn)))<|da [3] (gu (qc (off:=2) ot (fp pl120)))<|db [17] [1] [] (gu (qd (get:=fun d => PT.V d) ot fo_api_Pred_2 ty118))<|da [18] (gu (qe oF (trystlaw03_Few_con (PT.V a0) _ hx4) call56 (zc (zo ot) zn)))<|da [13,16,19] (gu (qF pl120 zero120n5 (Fill.cons rfl ot (FieldSet.nilAt fs_api_Pred_0 rfl) (Fill.cons rfl ot (FieldSet.nilAt fs_api_Pred_1 rfl) (Fill.cons rfl ot (FieldSet.nilAt fs_api_Pred_2 rfl) Fill.nil)))))<|dd [] [] [3] (gu (qp (i:=3) zero120))<|an)<|jv [1,2,3,6,8,20] [1,2,3] ?_
  refine js (vl ot ot ty120) ?_
  refine JL.imp (Imp.openP 3 4 120 R_api_Pred (hs2 := [(5, OS 4)]) rfl rfl rfl (by rfl) (by rfl) (by exact (.cons rfl .nil))) ?_
  refine JL.imp (Imp.openEnd 3 rfl) ?_
  obtain ⟨v7,hj8,hm⟩ :=ob hm
  refine nt<|cs<|sr<|js (qc ot (fp pl120))<|js (vr ot fo_api_Pred_0 ty9)<|js (qD ot u9)<|js (qs ot oi)<|nt<|JC.join [(1, D (RInt .i64) a1), (2, D (RInt .i64) a2), (3, BP 1 0), (6, BP 2 0), (8, BP 3 0)] [(1, Box R_api_Pred 120 a0), (2, Box R_api_Pred 120 z_api_Pred), (3, BoxH Any R_api_Pred 120 v7 [(5, OS 4)]), (4, OwnSl R_api_Pred 120 ([] : (List api_Pred)))] ?_ (fun _ hK9=>?_)
  ·obtain ⟨⟨v43,v44,v45⟩,hl46,hm⟩ :=ob hm
   refine tn<|sr<|js (qa ot)<|js (qE ot oi)<|js (qb ot)<|nt<|cs<|sr<|js (qb oi)<|nt<|JC.join [(2, D (RInt .i64) v43), (6, BP 2 0), (8, BP 3 0)] [(2, Box R_api_Pred 120 z_api_Pred), (3, BoxH Any R_api_Pred 120 v44 [(5, OS 4)]), (4, OwnSl R_api_Pred 120 v45)] ?_ (fun _ hK47=>?_)
   ·refine tn<|sr ?_
    refine JL.imp (Imp.frzH 3 4 (o := 5) (ts := []) rfl rfl rfl (by rfl) fs_api_Pred_3 (by rfl) .nil) ?_
    refine JL.imp (Imp.asBox 3 rfl) ?_
    cases hm
    exact js (qn ot ty120)<|js (qa ot)<|js (qo ot ot ty120)<|js (qb ot)<|nt<|ct<|JE.retB rfl (RvOK.cell rfl rfl ty120) (RvOK.tmp rfl)
   ·refine cb<|JC.loop _ (fun s53=>[(1, D (RInt .i64) a1), (2, D (RInt .i64) s53.1), (3, BP 1 0), (6, BP 2 0), (8, BP 3 0), (9, D (RInt .i64) s53.2.1)]) (fun s53=>[(1, Box R_api_Pred 120 a0), (2, Box R_api_Pred 120 z_api_Pred), (3, BoxH Any R_api_Pred 120 s53.2.2.1 [(5, OS 4)]), (4, OwnSl R_api_Pred 120 s53.2.2.2)]) _ ?_ _ hl46 ml
    intro s53 r52 _ hs49 hB50 hE51
    obtain ⟨v25, v26, v27, v28⟩ := s53
    try dsimp only at hs49
    refine cs<|sr<|js (qa ot)<|js (qc ot (fp pl120))<|js (qd ot fo_api_Pred_3 ty41)<|js (qf ot u41)<|js (qh ot ot)<|js (qa ot)<|jg (fun hg55=>qa ot)<|jg (fun hg56=>qh (ow hg56) oi)<|js (ql ot (fun hk57 => ow hk57))<|js (qa ot)<|jg (fun hg58=>qa ot)<|jg (fun hg59=>qs (ow hg59) oi)<|js (ql ot (fun hk60 => ow hk60))<|js (qa ot)<|jg (fun hg61=>qa ot)<|jg (fun hg62=>qs (ow hg62) oi)<|js (ql ot (fun hk63 => ow hk63))<|nt<|cn ot hs49 (fun hc64 hs49=>?_) fun hc64 hs49=>?_
    ·obtain ⟨hb65,hs49⟩ :=og hs49
     obtain ⟨x66,hx67,hs49⟩ :=ob hs49
     obtain ⟨hb68,hs49⟩ :=og hs49
     cases hs49
     refine ck<|tn<|cs<|cb<|sr<|js (qc ot (fp pl120))<|js (qd ot fo_api_Pred_3 ty41)<|js (qa ot)<|js (qj ot ot u41 ty120 hb65)<|js (qi ot ty120)<|js (qa ot)<|js (qE ot oi)<|js (qa ot)<|js (qe oF (ih (nth (PT.L a0) v26) (IntKind.i64.wrap (a1 - (1 : Int))) v25 _ hx67) call111 (ze (ze (ze zn))))<|js (qa ot)<|js (qu ot)<|js (qu ot)<|js (qp (i:=9) zero120)<|js (qo ot ot ty120)<|js (qb ot)<|nt<|sr<|js (qc ot (fp pl120))<|js (qJ ot ty41)<|js (qn ot ty120)<|js (qC u41 ty120 hz120 (.cons ot .nil))<|js (qB (j:=10) ot ot u41 sl120 hb68)<|js (qc ot (fp pl120))<|js (qO (hs2:=[(5, OS 10)]) ot ot fs_api_Pred_3 ty41)<|nt<|cr<|js (qa ot)<|js (qb ot)<|jn<|bn<|tn<|cr<|js (qa ot)<|js (qk ot oi)<|js (qb ot)<|jn ?_
     exact JE.meetR [(1, 1), (2, 2), (3, 3), (4, 10)] (hB50 _ rfl) (by decide) (by decide) (CVR.cons (t := 1) rfl Ren.dat (CVR.cons (t := 2) rfl Ren.dat (CVR.cons (t := 3) rfl (Ren.bp rfl) (CVR.cons (t := 6) rfl (Ren.bp rfl) (CVR.cons (t := 8) rfl (Ren.bp rfl) (CVR.cons (t := 9) rfl Ren.dat CVR.nil)))))) (OVR.cons (i := 1) rfl RenO.box (OVR.cons (i := 2) rfl RenO.box (OVR.cons (i := 3) rfl (RenO.boxH (.cons (Ren.os rfl) .nil)) (OVR.cons (i := 10) rfl RenO.sl OVR.nil))))
    ·cases hs49
     cases (hE51 _ rfl)
     exact cx<|tx<|tx<|bx<|mt hK47
  ·refine cn ot hj8 (fun hc70 hj8=>?_) fun hc70 hj8=>?_
   ·obtain ⟨hb71,hj8⟩ :=og hj8
    cases hj8
    exact cr<|js (qc ot (fp pl120))<|js (vr ot fo_api_Pred_0 ty9)<|js (qP ot oi u9 hb71)<|js (qc ot (fp pl120))<|js (vd ot ot fs_api_Pred_0 ty9)<|jn<|mt hK9
   ·cases hj8
    exact ck<|mt hK9
theorem trystlaw05_Few_con (a0) (r) (hm : trystlaw05_Few a0 = some r) : PC 55 [D R_api_Pred a0] (D R_api_Pred r) := by
 refine PI func55 fun w O=>?_
 unfold trystlaw05_Few at hm
 obtain ⟨x1,hx2,hm⟩ :=ob hm
 cases hm
 exact sr<|js (qq (i:=1) ot)<|js (qp (i:=2) zero120)<|nt<|sr<|js (qn ot ty120)<|js (qe oF (trystlaw05_few_con FUEL a0 (9 : Int) (50 : Int) _ hx2) call111 (ze (zc (zo oi) (zc (zo oi) zn))))<|js (qa ot)<|js (qu ot)<|js (qu ot)<|js (qp (i:=3) zero120)<|js (qo ot ot ty120)<|js (qb ot)<|nt<|sr<|js (qn ot ty120)<|js (qo ot ot ty120)<|nt<|ct<|JE.retA rfl (RvOK.cell rfl rfl ty120)
theorem trystlaw14_Few_con (a0) (r) (hm : trystlaw14_Few a0 = some r) : PC 21 [D R_api_Def a0] (D R_api_Def r) := by
 refine PI func21 fun w O=>?_
 unfold trystlaw14_Few at hm
 obtain ⟨x1,hx2,hm⟩ :=ob hm
 obtain ⟨x3,hx4,hm⟩ :=ob hm
 obtain ⟨x5,hx6,hm⟩ :=ob hm
 refine sr<|js (qq (i:=1) ot)<|js (qp (i:=2) zero45)<|nt<|cs<|cd mixed (da [1] (gu (qc (off:=0) ot (fp pl45)))<|db [6] [1] [] (gu (qd (get:=fun d => api_Def.Name d) ot fo_api_Def_0 ty9))<|da [7] (gu (qe oF (trystlaw02_Few_con (api_Def.Name a0) _ hx2) call24 (zc (zo ot) zn)))<|da [1] (gu (qc (off:=3) ot (fp pl45)))<|db [9] [1] [] (gu (qd (get:=fun d => api_Def.Key d) ot fo_api_Def_3 ty9))<|da [10] (gu (qe oF (trystlaw02_Few_con (api_Def.Key a0) _ hx4) call24 (zc (zo ot) zn)))<|da [1] (gu (qc (off:=4) ot (fp pl45)))<|db [12] [1] [] (gu (qd (get:=fun d => api_Def.J d) ot fo_api_Def_4 ty43))<|da [13] (gu (qe oF (trystlaw09_Kind_con (api_Def.J a0) _ hx6) call54 (zc (zo ot) zn)))<|da [8,11,14] (gu (qF pl45 zero45n1_2 (Fill.cons rfl ot (FieldSet.nilAt fs_api_Def_0 rfl) (Fill.cons rfl ot (FieldSet.nilAt fs_api_Def_3 rfl) (Fill.cons rfl ot (FieldSet.nilAt fs_api_Def_4 rfl) Fill.nil)))))<|dd [] [] [3] (gu (qp (i:=3) zero45))<|an)<|jv [1,2,3,15] [1,2,3] ?_
 refine js (vl ot ot ty45) ?_
 refine JL.imp (Imp.openP 3 4 9 RStr (hs2 := [(1, OS 4)]) rfl rfl rfl (by rfl) (by rfl) (by exact (.cons rfl .nil))) ?_
 refine JL.imp (Imp.openP 3 5 120 R_api_Pred (hs2 := [(1, OS 4), (2, OS 5)]) rfl rfl rfl (by rfl) (by rfl) (by exact (.cons rfl (.cons rfl .nil)))) ?_
 refine JL.imp (Imp.openEnd 3 rfl) ?_
 obtain ⟨v25,hl26,hm⟩ :=ob hm
 refine nt<|cs<|sr<|js (qb oi)<|nt<|JC.join [(1, BP 1 0), (2, BP 2 0), (3, BP 3 0)] [(1, Box R_api_Def 45 a0), (2, Box R_api_Def 45 z_api_Def), (3, BoxH Any R_api_Def 45 (⟨x1, [], [], x3, x5⟩ : api_Def) [(1, OS 4), (2, OS 5)]), (4, OwnSl RStr 9 v25), (5, OwnSl R_api_Pred 120 ([] : (List api_Pred)))] ?_ (fun _ hK27=>?_)
 ·obtain ⟨v53,hl54,hm⟩ :=ob hm
  refine tn<|cs<|sr<|js (qb oi)<|nt<|JC.join [(2, BP 2 0), (3, BP 3 0)] [(2, Box R_api_Def 45 z_api_Def), (3, BoxH Any R_api_Def 45 (⟨x1, [], [], x3, x5⟩ : api_Def) [(1, OS 4), (2, OS 5)]), (4, OwnSl RStr 9 v25), (5, OwnSl R_api_Pred 120 v53)] ?_ (fun _ hK55=>?_)
  ·refine tn<|sr ?_
   refine JL.imp (Imp.frzH 3 4 (o := 1) (ts := []) rfl rfl rfl (by rfl) fs_api_Def_1 (by rfl) .nil) ?_
   refine JL.imp (Imp.frzH 3 5 (o := 2) (ts := []) rfl rfl rfl (by rfl) fs_api_Def_2 (by rfl) .nil) ?_
   refine JL.imp (Imp.asBox 3 rfl) ?_
   cases hm
   exact js (qn ot ty45)<|js (qo ot ot ty45)<|nt<|ct<|JE.retA rfl (RvOK.cell rfl rfl ty45)
  ·refine cb<|JC.loop _ (fun s61=>[(1, BP 1 0), (2, BP 2 0), (3, BP 3 0), (5, D (RInt .i64) s61.1)]) (fun s61=>[(1, Box R_api_Def 45 a0), (2, Box R_api_Def 45 z_api_Def), (3, BoxH Any R_api_Def 45 (⟨x1, [], [], x3, x5⟩ : api_Def) [(1, OS 4), (2, OS 5)]), (4, OwnSl RStr 9 v25), (5, OwnSl R_api_Pred 120 s61.2)]) _ ?_ _ hl54 ml
   intro s61 r60 _ hs57 hB58 hE59
   obtain ⟨v43, v44⟩ := s61
   try dsimp only at hs57
   refine cs<|sr<|js (qa ot)<|js (qc ot (fp pl45))<|js (qd ot fo_api_Def_2 ty41)<|js (qf ot u41)<|js (qh ot ot)<|js (qa ot)<|jg (fun hg63=>qa ot)<|jg (fun hg64=>qh (ow hg64) oi)<|js (ql ot (fun hk65 => ow hk65))<|nt<|cn ot hs57 (fun hc66 hs57=>?_) fun hc66 hs57=>?_
   ·obtain ⟨hb67,hs57⟩ :=og hs57
    obtain ⟨x68,hx69,hs57⟩ :=ob hs57
    obtain ⟨hb70,hs57⟩ :=og hs57
    refine ck<|tn<|cs<|cb<|cd mixed (da [3] (gu (qc (off:=2) ot (fp pl45)))<|db [49] [3] [] (gu (qJ ot ty41))<|da [1] (gu (qc (off:=2) ot (fp pl45)))<|db [51] [1] [] (gu (qd (get:=fun d => api_Def.Where d) ot fo_api_Def_2 ty41))<|da [5] (gu (qa ot))<|da [52,53] (gu (qj ot ot u41 ty120 hb67))<|da [54] (gu (qi ot ty120))<|da [55] (gu (qe oF (trystlaw05_Few_con (nth (api_Def.Where a0) v43) _ hx69) call55 (zc (zo ot) zn)))<|da [56] (gu (qC u41 ty120 hz120 (.cons ot .nil)))<|df [57,50] [5] [10] (gu (qB (j:=10) ot ot u41 sl120 hb70))<|an)<|jv [1,2,3,5,58] [1,2,3,4,5,10] ?_
    cases hs57
    refine js (qc ot (fp pl45))<|js (qO (hs2:=[(1, OS 4), (2, OS 10)]) ot ot fs_api_Def_2 ty41)<|jn<|bn<|tn<|cr<|js (qa ot)<|js (qk ot oi)<|js (qb ot)<|jn ?_
    exact JE.meetR [(1, 1), (2, 2), (3, 3), (4, 4), (5, 10)] (hB58 _ rfl) (by decide) (by decide) (CVR.cons (t := 1) rfl (Ren.bp rfl) (CVR.cons (t := 2) rfl (Ren.bp rfl) (CVR.cons (t := 3) rfl (Ren.bp rfl) (CVR.cons (t := 5) rfl Ren.dat CVR.nil)))) (OVR.cons (i := 1) rfl RenO.box (OVR.cons (i := 2) rfl RenO.box (OVR.cons (i := 3) rfl (RenO.boxH (.cons (Ren.os rfl) (.cons (Ren.os rfl) .nil))) (OVR.cons (i := 4) rfl RenO.sl (OVR.cons (i := 10) rfl RenO.sl OVR.nil)))))
   ·cases hs57
    cases (hE59 _ rfl)
    exact cx<|tx<|tx<|bx<|mt hK55
 ·refine cb<|JC.loop _ (fun s33=>[(1, BP 1 0), (2, BP 2 0), (3, BP 3 0), (4, D (RInt .i64) s33.1)]) (fun s33=>[(1, Box R_api_Def 45 a0), (2, Box R_api_Def 45 z_api_Def), (3, BoxH Any R_api_Def 45 (⟨x1, [], [], x3, x5⟩ : api_Def) [(1, OS 4), (2, OS 5)]), (4, OwnSl RStr 9 s33.2), (5, OwnSl R_api_Pred 120 ([] : (List api_Pred)))]) _ ?_ _ hl26 ml
  intro s33 r32 _ hs29 hB30 hE31
  obtain ⟨v15, v16⟩ := s33
  try dsimp only at hs29
  refine cs<|sr<|js (qa ot)<|js (qc ot (fp pl45))<|js (qd ot fo_api_Def_1 ty40)<|js (qf ot u40)<|js (qh ot ot)<|js (qa ot)<|jg (fun hg71=>qa ot)<|jg (fun hg72=>qh (ow hg72) oi)<|js (ql ot (fun hk73 => ow hk73))<|nt<|cn ot hs29 (fun hc74 hs29=>?_) fun hc74 hs29=>?_
  ·obtain ⟨hb75,hs29⟩ :=og hs29
   obtain ⟨x76,hx77,hs29⟩ :=ob hs29
   obtain ⟨hb78,hs29⟩ :=og hs29
   refine ck<|tn<|cs<|cb<|cd mixed (da [3] (gu (qc (off:=1) ot (fp pl45)))<|db [27] [3] [] (gu (qJ ot ty40))<|da [1] (gu (qc (off:=1) ot (fp pl45)))<|db [29] [1] [] (gu (qd (get:=fun d => api_Def.Globs d) ot fo_api_Def_1 ty40))<|da [4] (gu (qa ot))<|da [30,31] (gu (qj ot ot u40 ty9 hb75))<|da [32] (gu (qi ot ty9))<|da [33] (gu (qe oF (trystlaw02_Few_con (nth (api_Def.Globs a0) v15) _ hx77) call24 (zc (zo ot) zn)))<|da [34] (gu (qC u40 ty9 hz9 (.cons ot .nil)))<|df [35,28] [4] [11] (gu (qB (j:=11) ot ot u40 sl9 hb78))<|an)<|jv [1,2,3,4,36] [1,2,3,4,5,11] ?_
   cases hs29
   refine js (qc ot (fp pl45))<|js (qO (hs2:=[(1, OS 11), (2, OS 5)]) ot ot fs_api_Def_1 ty40)<|jn<|bn<|tn<|cr<|js (qa ot)<|js (qk ot oi)<|js (qb ot)<|jn ?_
   exact JE.meetR [(1, 1), (2, 2), (3, 3), (4, 11), (5, 5)] (hB30 _ rfl) (by decide) (by decide) (CVR.cons (t := 1) rfl (Ren.bp rfl) (CVR.cons (t := 2) rfl (Ren.bp rfl) (CVR.cons (t := 3) rfl (Ren.bp rfl) (CVR.cons (t := 4) rfl Ren.dat CVR.nil)))) (OVR.cons (i := 1) rfl RenO.box (OVR.cons (i := 2) rfl RenO.box (OVR.cons (i := 3) rfl (RenO.boxH (.cons (Ren.os rfl) (.cons (Ren.os rfl) .nil))) (OVR.cons (i := 11) rfl RenO.sl (OVR.cons (i := 5) rfl RenO.sl OVR.nil)))))
  ·cases hs29
   cases (hE31 _ rfl)
   exact cx<|tx<|tx<|bx<|mt hK27
theorem trystlaw14_Offs_con (a0) (r) (hm : trystlaw14_Offs a0 = some r) : PC 22 [D (RSlice R_api_Off) a0] (D (RSlice R_api_Off) r) := by
 refine PI func22 fun w O=>?_
 unfold trystlaw14_Offs at hm
 obtain ⟨v21,hl22,hm⟩ :=ob hm
 refine sr<|js (qb (Opd.nil (R := R_api_Off)))<|nt<|sr<|js (qK (j:=1) (R:=R_api_Off) (E:=123) (.inr rfl))<|nt<|cs<|sr<|js (qb oi)<|nt<|JC.join [(3, OS 1)] [(1, OwnSl R_api_Off 123 v21)] ?_ (fun _ hK23=>?_)
 ·refine tn<|sr<|js (qa ot)<|js (qb ot)<|nt<|ct ?_
  refine JE.imp (Imp.frz 1 (ts := [3, 30, 2]) rfl (.cons rfl (.cons rfl (.cons rfl .nil)))) ?_
  cases hm
  exact JE.retA rfl (RvOK.tmp rfl)
 ·refine cb<|JC.loop _ (fun s29=>[(0, D (RSlice R_api_Off) a0), (3, OS 1), (4, D (RInt .i64) s29.1)]) (fun s29=>[(1, OwnSl R_api_Off 123 s29.2)]) _ ?_ _ hl22 ml
  intro s29 r28 _ hs25 hB26 hE27
  obtain ⟨v10, v11⟩ := s29
  try dsimp only at hs25
  refine cs<|sr<|js (qa ot)<|js (qa ot)<|js (qf ot u63)<|js (qh ot ot)<|js (qa ot)<|jg (fun hg31=>qa ot)<|jg (fun hg32=>qh (ow hg32) oi)<|js (ql ot (fun hk33 => ow hk33))<|nt<|cn ot hs25 (fun hc34 hs25=>?_) fun hc34 hs25=>?_
  ·obtain ⟨hb35,hs25⟩ :=og hs25
   obtain ⟨x36,hx37,hs25⟩ :=ob hs25
   obtain ⟨hb38,hs25⟩ :=og hs25
   obtain ⟨hb39,hs25⟩ :=og hs25
   refine ck<|tn<|cs<|cb<|cd mixed (da [3] (gu (qa ot))<|da [0] (gu (qa ot))<|da [4] (gu (qa ot))<|da [16,17] (gu (qj ot ot u63 ty123 hb35))<|da [18] (gu (qx ot (fp pl123) fo_api_Off_0))<|da [19] (gu (qi ot ty9))<|da [20] (gu (qe oF (trystlaw02_Few_con (api_Off.Topic (nth a0 v10)) _ hx37) call24 (zc (zo ot) zn)))<|da [0] (gu (qa ot))<|da [4] (gu (qa ot))<|da [22,23] (gu (qj ot ot u63 ty123 hb38))<|da [24] (gu (qx ot (fp pl123) fo_api_Off_1))<|da [25] (gu (qi ot ty3))<|da [21,26] (gu (qF pl123 zero123 (Fill.cons rfl ot fs_api_Off_0 (Fill.cons rfl ot fs_api_Off_1 Fill.nil))))<|da [27] (gu (qC u63 ty123 hz123 (.cons ot .nil)))<|df [28,15] [1] [4] (gu (qB (j:=4) ot ot u63 sl123 hb39))<|an)<|jv [0,4,29] [4] ?_
   cases hs25
   refine js (qb ot)<|jn<|bn<|tn<|cr<|js (qa ot)<|js (qk ot oi)<|js (qb ot)<|jn ?_
   exact JE.meetR [(1, 4)] (hB26 _ rfl) (by decide) (by decide) (CVR.cons (t := 0) rfl Ren.dat (CVR.cons (t := 3) rfl (Ren.os rfl) (CVR.cons (t := 4) rfl Ren.dat CVR.nil))) (OVR.cons (i := 4) rfl RenO.sl OVR.nil)
  ·cases hs25
   cases (hE27 _ rfl)
   exact cx<|tx<|tx<|bx<|mt hK23
theorem trystlaw09_Few_con (a0) (r) (hm : trystlaw09_Few a0 = some r) : PC 57 [D (RSlice R_api_Kept) a0] (D (RSlice R_api_Kept) r) := by
 refine PI func57 fun w O=>?_
 unfold trystlaw09_Few at hm
 refine sr<|js (qb (Opd.nil (R := R_api_Kept)))<|nt<|cs<|sr<|js (qa ot)<|js (qf ot u125)<|js (qs ot oi)<|nt<|cn ot hm (fun hc1 hm=>?_) fun hc1 hm=>?_
 ·obtain ⟨hb2,hm⟩ :=og hm
  obtain ⟨hb3,hm⟩ :=og hm
  refine cr<|js (qa ot)<|js (qZ ot oi u125 ty153 hb2)<|js (qb ot)<|nt<|sr<|js (qV (j:=1) u125 ty153 hz153 .nil)<|js (qa ot)<|js (qB (j:=2) ot ot u125 sl153 hb3)<|js (qb ot)<|nt<|ct ?_
  refine JE.imp (Imp.frz 2 (ts := [2, 10]) rfl (.cons rfl (.cons rfl .nil))) ?_
  cases hm
  exact JE.retA rfl (RvOK.tmp rfl)
 ·obtain ⟨hb4,hm⟩ :=og hm
  refine ck<|tn<|sr<|js (qV (j:=3) u125 ty153 hz153 .nil)<|js (qa ot)<|js (qB (j:=4) ot ot u125 sl153 hb4)<|js (qb ot)<|nt<|ct ?_
  refine JE.imp (Imp.frz 4 (ts := [2, 10]) rfl (.cons rfl (.cons rfl .nil))) ?_
  cases hm
  exact JE.retA rfl (RvOK.tmp rfl)
theorem trystlaw10_Few_con (a0) (r) (hm : trystlaw10_Few a0 = some r) : PC 23 [D (RSlice R_api_Inst) a0] (D (RSlice R_api_Inst) r) := by
 refine PI func23 fun w O=>?_
 unfold trystlaw10_Few at hm
 obtain ⟨v25,hl26,hm⟩ :=ob hm
 refine sr<|js (qb (Opd.nil (R := R_api_Inst)))<|nt<|sr<|js (qK (j:=1) (R:=R_api_Inst) (E:=127) (.inr rfl))<|nt<|cs<|sr<|js (qb oi)<|nt<|JC.join [(3, OS 1)] [(1, OwnSl R_api_Inst 127 v25)] ?_ (fun _ hK27=>?_)
 ·refine tn<|sr<|js (qa ot)<|js (qb ot)<|nt<|ct ?_
  refine JE.imp (Imp.frz 1 (ts := [3, 31, 2]) rfl (.cons rfl (.cons rfl (.cons rfl .nil)))) ?_
  cases hm
  exact JE.retA rfl (RvOK.tmp rfl)
 ·refine cb<|JC.loop _ (fun s33=>[(0, D (RSlice R_api_Inst) a0), (3, OS 1), (4, D (RInt .i64) s33.1)]) (fun s33=>[(1, OwnSl R_api_Inst 127 s33.2)]) _ ?_ _ hl26 ml
  intro s33 r32 _ hs29 hB30 hE31
  obtain ⟨v12, v13⟩ := s33
  try dsimp only at hs29
  refine cs<|sr<|js (qa ot)<|js (qa ot)<|js (qf ot u64)<|js (qh ot ot)<|js (qa ot)<|jg (fun hg35=>qa ot)<|jg (fun hg36=>qh (ow hg36) oi)<|js (ql ot (fun hk37 => ow hk37))<|nt<|cn ot hs29 (fun hc38 hs29=>?_) fun hc38 hs29=>?_
  ·obtain ⟨hb39,hs29⟩ :=og hs29
   obtain ⟨x40,hx41,hs29⟩ :=ob hs29
   obtain ⟨hb42,hs29⟩ :=og hs29
   obtain ⟨x43,hx44,hs29⟩ :=ob hs29
   obtain ⟨hb45,hs29⟩ :=og hs29
   refine ck<|tn<|cs<|cb<|cd mixed (da [3] (gu (qa ot))<|da [0] (gu (qa ot))<|da [4] (gu (qa ot))<|da [16,17] (gu (qj ot ot u64 ty127 hb39))<|da [18] (gu (qx ot (fp pl127) fo_api_Inst_0))<|da [19] (gu (qi ot ty118))<|da [20] (gu (qe oF (trystlaw03_Few_con (api_Inst.Key (nth a0 v12)) _ hx41) call56 (zc (zo ot) zn)))<|da [0] (gu (qa ot))<|da [4] (gu (qa ot))<|da [22,23] (gu (qj ot ot u64 ty127 hb42))<|da [24] (gu (qx ot (fp pl127) fo_api_Inst_1))<|da [25] (gu (qi ot ty125))<|da [26] (gu (qe oF (trystlaw09_Few_con (api_Inst.L (nth a0 v12)) _ hx44) call57 (zc (zo ot) zn)))<|da [21,27] (gu (qF pl127 zero127 (Fill.cons rfl ot fs_api_Inst_0 (Fill.cons rfl ot fs_api_Inst_1 Fill.nil))))<|da [28] (gu (qC u64 ty127 hz127 (.cons ot .nil)))<|df [29,15] [1] [4] (gu (qB (j:=4) ot ot u64 sl127 hb45))<|an)<|jv [0,4,30] [4] ?_
   cases hs29
   refine js (qb ot)<|jn<|bn<|tn<|cr<|js (qa ot)<|js (qk ot oi)<|js (qb ot)<|jn ?_
   exact JE.meetR [(1, 4)] (hB30 _ rfl) (by decide) (by decide) (CVR.cons (t := 0) rfl Ren.dat (CVR.cons (t := 3) rfl (Ren.os rfl) (CVR.cons (t := 4) rfl Ren.dat CVR.nil))) (OVR.cons (i := 4) rfl RenO.sl OVR.nil)
  ·cases hs29
   cases (hE31 _ rfl)
   exact cx<|tx<|tx<|bx<|mt hK27
theorem trystlaw16_Few_con (a0) (r) (hm : trystlaw16_Few a0 = some r) : PC 7 [D R_api_Router a0] (D R_api_Router r) := by
 refine PI func7 fun w O=>?_
 unfold trystlaw16_Few at hm
 obtain ⟨x1,hx2,hm⟩ :=ob hm
 obtain ⟨x3,hx4,hm⟩ :=ob hm
 obtain ⟨x5,hx6,hm⟩ :=ob hm
 obtain ⟨x7,hx8,hm⟩ :=ob hm
 refine sr<|js (qq (i:=1) ot)<|js (qp (i:=2) zero28)<|nt<|cs<|cd mixed (da [1] (gu (qc (off:=0) ot (fp pl28)))<|db [9] [1] [] (gu (qd (get:=fun d => api_Router.Now d) ot fo_api_Router_0 ty3))<|da [1] (gu (qc (off:=4) ot (fp pl28)))<|db [11] [1] [] (gu (qd (get:=fun d => api_Router.Total d) ot fo_api_Router_4 ty3))<|da [1] (gu (qc (off:=1) ot (fp pl28)))<|db [13] [1] [] (gu (qd (get:=fun d => api_Router.Topics d) ot fo_api_Router_1 ty22))<|de [14] [] [3] (gu (qg (σ:=[(0, 3)]) oF (trystlaw12_Few__own_con (api_Router.Topics a0) _ hx2) call18 (.cons ot Ren.dat .nil) .nil (.newSl (AFC.get rfl) .nil) (RenB.os rfl)))<|da [1] (gu (qc (off:=2) ot (fp pl28)))<|db [16] [1] [] (gu (qd (get:=fun d => api_Router.Lasts d) ot fo_api_Router_2 ty23))<|da [17] (gu (qe oF (trystlaw13_Few_con (api_Router.Lasts a0) _ hx4) call19 (zc (zo ot) zn)))<|da [1] (gu (qc (off:=5) ot (fp pl28)))<|db [19] [1] [] (gu (qd (get:=fun d => api_Router.Out d) ot fo_api_Router_5 ty25))<|da [20] (gu (qe oF (trystlaw15_Few_con (api_Router.Out a0) _ hx6) call20 (zc (zo ot) zn)))<|da [1] (gu (qc (off:=6) ot (fp pl28)))<|db [22] [1] [] (gu (qd (get:=fun d => api_Router.Given d) ot fo_api_Router_6 ty25))<|da [23] (gu (qe oF (trystlaw15_Few_con (api_Router.Given a0) _ hx8) call20 (zc (zo ot) zn)))<|db [10,12,18,21,24,15] [3] [] (gu (vC pl28 zero28n3_7 (FillH.cons rfl ot (FieldSet.nilAt fs_api_Router_0 rfl) rfl (FillH.cons rfl ot (FieldSet.nilAt fs_api_Router_4 rfl) rfl (FillH.hole rfl ot (AOC.get rfl) (FieldSet.nilAt fs_api_Router_1 rfl) (FillH.cons rfl ot (FieldSet.nilAt fs_api_Router_2 rfl) rfl (FillH.cons rfl ot (FieldSet.nilAt fs_api_Router_5 rfl) rfl (FillH.cons rfl ot (FieldSet.nilAt fs_api_Router_6 rfl) rfl FillH.nil))))))))<|dd [] [] [4] (gu (qp (i:=4) zero28))<|an)<|jv [1,2,3,25] [1,2,3,4] ?_
 refine js (vN ot ot (.cons rfl .nil) ty28) ?_
 refine JL.imp (Imp.openP 4 5 66 R_api_Sub (hs2 := [(1, OS 3), (3, OS 5)]) rfl rfl rfl (by rfl) (by rfl) (by exact (.cons rfl (.cons rfl .nil)))) ?_
 refine JL.imp (Imp.openP 4 6 72 R_api_Dead (hs2 := [(1, OS 3), (3, OS 5), (7, OS 6)]) rfl rfl rfl (by rfl) (by rfl) (by exact (.cons rfl (.cons rfl (.cons rfl .nil))))) ?_
 refine JL.imp (Imp.openEnd 4 rfl) ?_
 obtain ⟨v23,hl24,hm⟩ :=ob hm
 refine nt<|cs<|sr<|js (qb oi)<|nt<|JC.join [(1, BP 1 0), (2, BP 2 0), (3, BP 4 0)] [(1, Box R_api_Router 28 a0), (2, Box R_api_Router 28 z_api_Router), (3, OwnSl R_api_Topic 62 v23), (4, BoxH Any R_api_Router 28 (⟨api_Router.Now a0, [], x3, [], api_Router.Total a0, x5, x7, []⟩ : api_Router) [(1, OS 3), (3, OS 5), (7, OS 6)]), (5, OwnSl R_api_Sub 66 ([] : (List api_Sub))), (6, OwnSl R_api_Dead 72 ([] : (List api_Dead)))] ?_ (fun _ hK25=>?_)
 ·obtain ⟨v59,hl60,hm⟩ :=ob hm
  refine tn<|cs<|sr<|js (qb oi)<|nt<|JC.join [(1, BP 1 0), (2, BP 2 0), (3, BP 4 0)] [(1, Box R_api_Router 28 a0), (2, Box R_api_Router 28 z_api_Router), (3, OwnSl R_api_Topic 62 v23), (4, BoxH Any R_api_Router 28 (⟨api_Router.Now a0, [], x3, [], api_Router.Total a0, x5, x7, []⟩ : api_Router) [(1, OS 3), (3, OS 5), (7, OS 6)]), (5, OwnSl R_api_Sub 66 v59), (6, OwnSl R_api_Dead 72 ([] : (List api_Dead)))] ?_ (fun _ hK61=>?_)
  ·obtain ⟨v95,hl96,hm⟩ :=ob hm
   refine tn<|cs<|sr<|js (qb oi)<|nt<|JC.join [(2, BP 2 0), (3, BP 4 0)] [(2, Box R_api_Router 28 z_api_Router), (3, OwnSl R_api_Topic 62 v23), (4, BoxH Any R_api_Router 28 (⟨api_Router.Now a0, [], x3, [], api_Router.Total a0, x5, x7, []⟩ : api_Router) [(1, OS 3), (3, OS 5), (7, OS 6)]), (5, OwnSl R_api_Sub 66 v59), (6, OwnSl R_api_Dead 72 v95)] ?_ (fun _ hK97=>?_)
   ·refine tn<|sr ?_
    refine JL.imp (Imp.frzH 4 3 (o := 1) (ts := []) rfl rfl rfl (by rfl) fs_api_Router_1 (by rfl) .nil) ?_
    refine JL.imp (Imp.frzH 4 5 (o := 3) (ts := []) rfl rfl rfl (by rfl) fs_api_Router_3 (by rfl) .nil) ?_
    refine JL.imp (Imp.frzH 4 6 (o := 7) (ts := []) rfl rfl rfl (by rfl) fs_api_Router_7 (by rfl) .nil) ?_
    refine JL.imp (Imp.asBox 4 rfl) ?_
    cases hm
    exact js (qn ot ty28)<|js (qo ot ot ty28)<|nt<|ct<|JE.retA rfl (RvOK.cell rfl rfl ty28)
   ·refine cb<|JC.loop _ (fun s103=>[(1, BP 1 0), (2, BP 2 0), (3, BP 4 0), (7, D (RInt .i64) s103.1)]) (fun s103=>[(1, Box R_api_Router 28 a0), (2, Box R_api_Router 28 z_api_Router), (3, OwnSl R_api_Topic 62 v23), (4, BoxH Any R_api_Router 28 (⟨api_Router.Now a0, [], x3, [], api_Router.Total a0, x5, x7, []⟩ : api_Router) [(1, OS 3), (3, OS 5), (7, OS 6)]), (5, OwnSl R_api_Sub 66 v59), (6, OwnSl R_api_Dead 72 s103.2)]) _ ?_ _ hl96 ml
    intro s103 r102 _ hs99 hB100 hE101
    obtain ⟨v81, v82⟩ := s103
    try dsimp only at hs99
    refine cs<|sr<|js (qa ot)<|js (qc ot (fp pl28))<|js (qd ot fo_api_Router_7 ty26)<|js (qf ot u26)<|js (qh ot ot)<|js (qa ot)<|jg (fun hg105=>qa ot)<|jg (fun hg106=>qh (ow hg106) oi)<|js (ql ot (fun hk107 => ow hk107))<|nt<|cn ot hs99 (fun hc108 hs99=>?_) fun hc108 hs99=>?_
    ·obtain ⟨hb109,hs99⟩ :=og hs99
     obtain ⟨x110,hx111,hs99⟩ :=ob hs99
     obtain ⟨hb112,hs99⟩ :=og hs99
     refine ck<|tn<|cs<|cb<|cs<|cd mixed (da [1] (gu (qc (off:=7) ot (fp pl28)))<|db [98] [1] [] (gu (qd (get:=fun d => api_Router.Dead d) ot fo_api_Router_7 ty26))<|da [7] (gu (qa ot))<|da [99,100] (gu (qj ot ot u26 ty72 hb109))<|da [101] (gu (qx ot (fp pl72) fo_api_Dead_0))<|da [102] (gu (qi ot ty9))<|da [103] (gu (qe oF (trystlaw02_Few_con (api_Dead.Sub (nth (api_Router.Dead a0) v81)) _ hx111) call24 (zc (zo ot) zn)))<|da [1] (gu (qc (off:=7) ot (fp pl28)))<|db [105] [1] [] (gu (qd (get:=fun d => api_Router.Dead d) ot fo_api_Router_7 ty26))<|da [7] (gu (qa ot))<|da [106,107] (gu (qj ot ot u26 ty72 hb112))<|da [108] (gu (qx ot (fp pl72) fo_api_Dead_1))<|da [109] (gu (qi ot ty9))<|da [104,110] (gu (qF pl72 zero72 (Fill.cons rfl ot fs_api_Dead_0 (Fill.cons rfl ot fs_api_Dead_1 Fill.nil))))<|dd [] [] [17] (gu (qp (i:=17) zero72))<|an)<|jv [1,2,3,7,8,111] [1,2,3,4,5,6,17] ?_
     refine js (qo ot ot ty72)<|nt<|cs<|sr<|js (qc ot (fp pl72))<|js (qd ot fo_api_Dead_1 ty9)<|js (qD ot u9)<|js (qs ot oi)<|nt<|cn ot hs99 (fun hc113 hs99=>?_) fun hc113 hs99=>?_
     ·obtain ⟨hb114,hs99⟩ :=og hs99
      obtain ⟨hb115,hs99⟩ :=og hs99
      cases hs99
      refine cr<|js (qc ot (fp pl72))<|js (qd ot fo_api_Dead_1 ty9)<|js (qP ot oi u9 hb114)<|js (qc ot (fp pl72))<|js (qv ot ot fs_api_Dead_1 ty9)<|nt<|cr<|js (qc ot (fp pl28))<|js (qJ ot ty26)<|js (qn ot ty72)<|js (qC u26 ty72 hz72 (.cons ot .nil))<|js (qB (j:=18) ot ot u26 sl72 hb115)<|js (qc ot (fp pl28))<|js (qO (hs2:=[(1, OS 3), (3, OS 5), (7, OS 18)]) ot ot fs_api_Router_7 ty26)<|jn<|bn<|tn<|cr<|js (qa ot)<|js (qk ot oi)<|js (qb ot)<|jn ?_
      exact JE.meetR [(1, 1), (2, 2), (3, 3), (4, 4), (5, 5), (6, 18)] (hB100 _ rfl) (by decide) (by decide) (CVR.cons (t := 1) rfl (Ren.bp rfl) (CVR.cons (t := 2) rfl (Ren.bp rfl) (CVR.cons (t := 3) rfl (Ren.bp rfl) (CVR.cons (t := 7) rfl Ren.dat CVR.nil)))) (OVR.cons (i := 1) rfl RenO.box (OVR.cons (i := 2) rfl RenO.box (OVR.cons (i := 3) rfl RenO.sl (OVR.cons (i := 4) rfl (RenO.boxH (.cons (Ren.os rfl) (.cons (Ren.os rfl) (.cons (Ren.os rfl) .nil)))) (OVR.cons (i := 5) rfl RenO.sl (OVR.cons (i := 18) rfl RenO.sl OVR.nil))))))
     ·obtain ⟨hb116,hs99⟩ :=og hs99
      cases hs99
      refine ck<|tn<|cr<|js (qc ot (fp pl28))<|js (qJ ot ty26)<|js (qn ot ty72)<|js (qC u26 ty72 hz72 (.cons ot .nil))<|js (qB (j:=19) ot ot u26 sl72 hb116)<|js (qc ot (fp pl28))<|js (qO (hs2:=[(1, OS 3), (3, OS 5), (7, OS 19)]) ot ot fs_api_Router_7 ty26)<|jn<|bn<|tn<|cr<|js (qa ot)<|js (qk ot oi)<|js (qb ot)<|jn ?_
      exact JE.meetR [(1, 1), (2, 2), (3, 3), (4, 4), (5, 5), (6, 19)] (hB100 _ rfl) (by decide) (by decide) (CVR.cons (t := 1) rfl (Ren.bp rfl) (CVR.cons (t := 2) rfl (Ren.bp rfl) (CVR.cons (t := 3) rfl (Ren.bp rfl) (CVR.cons (t := 7) rfl Ren.dat CVR.nil)))) (OVR.cons (i := 1) rfl RenO.box (OVR.cons (i := 2) rfl RenO.box (OVR.cons (i := 3) rfl RenO.sl (OVR.cons (i := 4) rfl (RenO.boxH (.cons (Ren.os rfl) (.cons (Ren.os rfl) (.cons (Ren.os rfl) .nil)))) (OVR.cons (i := 5) rfl RenO.sl (OVR.cons (i := 19) rfl RenO.sl OVR.nil))))))
    ·cases hs99
     cases (hE101 _ rfl)
     exact cx<|tx<|tx<|bx<|mt hK97
  ·refine cb<|JC.loop _ (fun s67=>[(1, BP 1 0), (2, BP 2 0), (3, BP 4 0), (5, D (RInt .i64) s67.1)]) (fun s67=>[(1, Box R_api_Router 28 a0), (2, Box R_api_Router 28 z_api_Router), (3, OwnSl R_api_Topic 62 v23), (4, BoxH Any R_api_Router 28 (⟨api_Router.Now a0, [], x3, [], api_Router.Total a0, x5, x7, []⟩ : api_Router) [(1, OS 3), (3, OS 5), (7, OS 6)]), (5, OwnSl R_api_Sub 66 s67.2), (6, OwnSl R_api_Dead 72 ([] : (List api_Dead)))]) _ ?_ _ hl60 ml
   intro s67 r66 _ hs63 hB64 hE65
   obtain ⟨v45, v46⟩ := s67
   try dsimp only at hs63
   refine cs<|sr<|js (qa ot)<|js (qc ot (fp pl28))<|js (qd ot fo_api_Router_3 ty24)<|js (qf ot u24)<|js (qh ot ot)<|js (qa ot)<|jg (fun hg117=>qa ot)<|jg (fun hg118=>qh (ow hg118) oi)<|js (ql ot (fun hk119 => ow hk119))<|nt<|cn ot hs63 (fun hc120 hs63=>?_) fun hc120 hs63=>?_
   ·obtain ⟨hb121,hs63⟩ :=og hs63
    obtain ⟨x122,hx123,hs63⟩ :=ob hs63
    obtain ⟨x124,hx125,hs63⟩ :=ob hs63
    obtain ⟨x126,hx127,hs63⟩ :=ob hs63
    refine ck<|tn<|cs<|cb<|sr<|js (qc ot (fp pl28))<|js (qd ot fo_api_Router_3 ty24)<|js (qa ot)<|js (qj ot ot u24 ty66 hb121)<|js (qi ot ty66)<|js (qp (i:=20) zero66)<|js (qo ot ot ty66)<|nt<|cs<|cd mixed (da [6] (gu (qc (off:=0) ot (fp pl66)))<|db [69] [20] [] (gu (qd (get:=fun d => api_Sub.D d) ot fo_api_Sub_0 ty45))<|da [70] (gu (qe oF (trystlaw14_Few_con (api_Sub.D (nth (api_Router.Subs a0) v45)) _ hx123) call21 (zc (zo ot) zn)))<|da [6] (gu (qc (off:=8) ot (fp pl66)))<|db [72] [20] [] (gu (qd (get:=fun d => api_Sub.Offs d) ot fo_api_Sub_1 ty63))<|da [73] (gu (qe oF (trystlaw14_Offs_con (api_Sub.Offs (nth (api_Router.Subs a0) v45)) _ hx125) call22 (zc (zo ot) zn)))<|da [6] (gu (qc (off:=9) ot (fp pl66)))<|db [75] [20] [] (gu (qd (get:=fun d => api_Sub.Insts d) ot fo_api_Sub_2 ty64))<|da [76] (gu (qe oF (trystlaw10_Few_con (api_Sub.Insts (nth (api_Router.Subs a0) v45)) _ hx127) call23 (zc (zo ot) zn)))<|da [6] (gu (qc (off:=0) ot (fp pl66)))<|an)<|jv [1,2,3,5,6,71,74,77,78] [1,2,3,4,5,6,20] ?_
    obtain ⟨hb128,hs63⟩ :=og hs63
    cases hs63
    refine js (qv ot ot fs_api_Sub_0 ty45)<|js (qc ot (fp pl66))<|js (qv ot ot fs_api_Sub_1 ty63)<|js (qc ot (fp pl66))<|js (qv ot ot fs_api_Sub_2 ty64)<|nt<|cr<|js (qc ot (fp pl28))<|js (qJ ot ty24)<|js (qn ot ty66)<|js (qC u24 ty66 hz66 (.cons ot .nil))<|js (qB (j:=21) ot ot u24 sl66 hb128)<|js (qc ot (fp pl28))<|js (qO (hs2:=[(1, OS 3), (3, OS 21), (7, OS 6)]) ot ot fs_api_Router_3 ty24)<|jn<|bn<|tn<|cr<|js (qa ot)<|js (qk ot oi)<|js (qb ot)<|jn ?_
    exact JE.meetR [(1, 1), (2, 2), (3, 3), (4, 4), (5, 21), (6, 6)] (hB64 _ rfl) (by decide) (by decide) (CVR.cons (t := 1) rfl (Ren.bp rfl) (CVR.cons (t := 2) rfl (Ren.bp rfl) (CVR.cons (t := 3) rfl (Ren.bp rfl) (CVR.cons (t := 5) rfl Ren.dat CVR.nil)))) (OVR.cons (i := 1) rfl RenO.box (OVR.cons (i := 2) rfl RenO.box (OVR.cons (i := 3) rfl RenO.sl (OVR.cons (i := 4) rfl (RenO.boxH (.cons (Ren.os rfl) (.cons (Ren.os rfl) (.cons (Ren.os rfl) .nil)))) (OVR.cons (i := 21) rfl RenO.sl (OVR.cons (i := 6) rfl RenO.sl OVR.nil))))))
   ·cases hs63
    cases (hE65 _ rfl)
    exact cx<|tx<|tx<|bx<|mt hK61
 ·refine cb<|JC.loop _ (fun s31=>[(1, BP 1 0), (2, BP 2 0), (3, BP 4 0), (4, D (RInt .i64) s31.1)]) (fun s31=>[(1, Box R_api_Router 28 a0), (2, Box R_api_Router 28 z_api_Router), (3, OwnSl R_api_Topic 62 s31.2), (4, BoxH Any R_api_Router 28 (⟨api_Router.Now a0, [], x3, [], api_Router.Total a0, x5, x7, []⟩ : api_Router) [(1, OS 3), (3, OS 5), (7, OS 6)]), (5, OwnSl R_api_Sub 66 ([] : (List api_Sub))), (6, OwnSl R_api_Dead 72 ([] : (List api_Dead)))]) _ ?_ _ hl24 ml
  intro s31 r30 _ hs27 hB28 hE29
  obtain ⟨v15, v16⟩ := s31
  try dsimp only at hs27
  refine cs<|sr<|js (qa ot)<|js (qc ot (fp pl28))<|js (qJ ot ty22)<|js (qX ot u22)<|js (qh ot ot)<|nt<|cn ot hs27 (fun hc129 hs27=>?_) fun hc129 hs27=>?_
  ·obtain ⟨hb130,hs27⟩ :=og hs27
   refine ck<|tn<|cs<|cb<|sr<|js (qc ot (fp pl28))<|js (qJ ot ty22)<|js (qa ot)<|js (qT ot ot u22 ty62 hb130)<|js (qW ot (fp pl62))<|js (vt ot fo_api_Topic_2 ty40 hb130)<|js (qf ot u40)<|js (qs ot oi)<|nt<|cn ot hs27 (fun hc131 hs27=>?_) fun hc131 hs27=>?_
   ·obtain ⟨hb132,hs27⟩ :=og hs27
    obtain ⟨hb133,hs27⟩ :=og hs27
    refine cd mixed (da [3] (gu (qc (off:=1) ot (fp pl28)))<|db [41] [4] [] (gu (qJ ot ty22))<|da [4] (gu (qa ot))<|da [3] (gu (qc (off:=1) ot (fp pl28)))<|db [44] [4] [] (gu (qJ ot ty22))<|da [4] (gu (qa ot))<|db [45,46] [3] [] (gu (qT ot ot u22 ty62 hb132))<|da [47] (gu (qW (off:=2) ot (fp pl62)))<|db [48] [3] [] (gu (vt (get:=fun d => api_Topic.Log d) ot fo_api_Topic_2 ty40 hb132))<|da [49] (gu (qZ ot oi u40 ty9 hb133))<|an)<|jv [1,2,3,4,42,43,50] [1,2,3,4,5,6] ?_
    obtain ⟨hb134,hs27⟩ :=og hs27
    cases hs27
    exact js (qT ot ot u22 ty62 hb134)<|js (qW ot (fp pl62))<|js (ve ot ot fs_api_Topic_2 ty40 hb134)<|jn<|bn<|tn<|cr<|js (qa ot)<|js (qk ot oi)<|js (qb ot)<|jn<|mt (hB28 _ rfl)
   ·cases hs27
    exact ck<|bn<|tn<|cr<|js (qa ot)<|js (qk ot oi)<|js (qb ot)<|jn<|mt (hB28 _ rfl)
  ·cases hs27
   cases (hE29 _ rfl)
   exact cx<|tx<|tx<|bx<|mt hK25
theorem trystlaw20_Cut_con (a0) (r) (hm : trystlaw20_Cut a0 = some r) : PC 14 [D R_api_Op a0] (D R_api_Op r) := by
 refine PI func14 fun w O=>?_
 unfold trystlaw20_Cut at hm
 refine sr<|js (qq (i:=1) ot)<|js (qp (i:=2) zero48)<|nt<|cs<|sr<|js (qc ot (fp pl48))<|js (qd ot fo_api_Op_1 ty9)<|js (qD ot u9)<|js (qs ot oi)<|nt<|cn ot hm (fun hc1 hm=>?_) fun hc1 hm=>?_
 ·obtain ⟨hb2,hm⟩ :=og hm
  obtain ⟨x3,hx4,hm⟩ :=ob hm
  cases hm
  exact cr<|js (qc ot (fp pl48))<|js (qd ot fo_api_Op_1 ty9)<|js (qP ot oi u9 hb2)<|js (qc ot (fp pl48))<|js (qv ot ot fs_api_Op_1 ty9)<|nt<|sr<|js (qc ot (fp pl48))<|js (qd ot fo_api_Op_2 ty45)<|js (qe oF (trystlaw14_Few_con (api_Op.D a0) _ hx4) call21 (ze zn))<|js (qc ot (fp pl48))<|js (qv ot ot fs_api_Op_2 ty45)<|nt<|sr<|js (qn ot ty48)<|js (qo ot ot ty48)<|nt<|ct<|JE.retA rfl (RvOK.cell rfl rfl ty48)
 ·obtain ⟨x5,hx6,hm⟩ :=ob hm
  cases hm
  exact ck<|tn<|sr<|js (qc ot (fp pl48))<|js (qd ot fo_api_Op_2 ty45)<|js (qe oF (trystlaw14_Few_con (api_Op.D a0) _ hx6) call21 (ze zn))<|js (qc ot (fp pl48))<|js (qv ot ot fs_api_Op_2 ty45)<|nt<|sr<|js (qn ot ty48)<|js (qo ot ot ty48)<|nt<|ct<|JE.retA rfl (RvOK.cell rfl rfl ty48)
theorem name_part_1_con (a0) (r) (hm : name_part_1 a0 = r) : PC 206 [D (RInt .i32) a0] (D RBool r) := by
 refine PI func206 fun w O=>?_
 unfold name_part_1 at hm
 cases hm
 exact sr<|js (qb oB)<|nt<|sr<|js (qa ot)<|js (qI ot oi)<|js (qa ot)<|jg (fun hg1=>qa ot)<|jg (fun hg2=>qN (ow hg2) oi)<|js (ql ot (fun hk3 => ow hk3))<|js (qa ot)<|jg (fun hg4=>qa ot)<|jg (fun hg5=>qI (ow hg5) oi)<|jg (fun hg6=>qa (ow hg6))<|jh (fun hg7=>qa ot)<|jh (fun hg8=>qN (ow hg8) oi)<|jg (fun hg9=>ql (ow hg9) (fun hk10 => ow (And.intro hg9 hk10)))<|js (qm ot (fun hk11 => ow hk11))<|js (qa ot)<|jg (fun hg12=>qa ot)<|jg (fun hg13=>qy (ow hg13) oi)<|js (qm ot (fun hk14 => ow hk14))<|js (qb ot)<|nt<|ct<|JE.retA rfl (RvOK.tmp rfl)
theorem name_part_con (a0) (r) (hm : name_part a0 = some r) : PC 190 [D RStr a0] (D RBool r) := by
 refine PI func190 fun w O=>?_
 unfold name_part at hm
 obtain ⟨e10,hl8,hm⟩ :=ob hm
 refine sr<|js (qb oB)<|nt<|sr<|js (qb oF)<|nt<|cs<|sr<|js (qa ot)<|js (vM (j:=1) ot u9)<|nt<|JC.joinS e10 (fun s16=>[(0, D RStr a0)]) (fun s16=>[]) (fun s16 he=>?_) (fun _ hK9=>?_)
 ·cases he
  try dsimp only at hm
  cases hm
  exact tn<|sr<|js (qa ot)<|js (qQ ot oS)<|js (qb ot)<|nt<|ct<|JE.retA rfl (RvOK.tmp rfl)
 ·refine cb<|JC.loop _ (fun s15=>[(0, D RStr a0), (3, FV 206 []), (7, BP 1 0)]) (fun s15=>[(1, IterS a0 s15)]) _ ?_ _ hl8 ml
  intro v4 r14 _ hs11 hB12 hE13
  try dsimp only at hs11
  refine sr<|js (vL ot)<|js (vD ot)<|nt<|cs<|cn ot hs11 (fun hc17 hs11=>?_) fun hc17 hs11=>?_
  ·obtain ⟨hb18,hs11⟩ :=og hs11
   refine ck<|tn<|cb<|sr<|js (vE ot hc17 hb18)<|js (qb ot)<|nt<|sr<|js (qa ot)<|js (qa ot)<|js (qL (F:=[]) ot (name_part_1_con (runeOf a0 v4) _ rfl) call206 (ze zn) FzE.nil WI.bool)<|js (qr ot)<|nt<|cn ot hs11 (fun hc19 hs11=>?_) fun hc19 hs11=>?_
   ·cases hs11
    cases (hE13 _ rfl)
    cases hm
    exact sr<|js (qb oB)<|nt<|ct<|br<|tr<|br<|tr<|tr<|JE.retA rfl (RvOK.tmp rfl)
   ·cases hs11
    exact ck<|bn<|mt (hB12 _ rfl)
  ·cases hs11
   cases (hE13 _ rfl)
   exact cx<|tx<|tx<|bx<|mt (hK9 _ rfl)
theorem name_all__name_part_con (a0) (r) (hm : name_all__name_part a0 = some r) : PC 188 [D RStr a0,FV 190 []] (D RBool r) := by
 refine PI func188 fun w O=>?_
 unfold name_all__name_part at hm
 refine sr<|js (qb oB)<|nt<|cs<|sr<|js (qa ot)<|js (qD ot u9)<|js (qs ot oi)<|nt<|cn ot hm (fun hc1 hm=>?_) fun hc1 hm=>?_
 ·cases hm
  exact sr<|js (qb oB)<|nt<|ct<|tr<|JE.retA rfl (RvOK.tmp rfl)
 ·obtain ⟨e20,hl18,hm⟩ :=ob hm
  refine ck<|tn<|cs<|sr<|js (qa oi)<|nt<|JC.joinS e20 (fun s26=>[]) (fun s26=>[]) (fun s26 he=>?_) (fun _ hK19=>?_)
  ·cases he
   try dsimp only at hm
   cases hm
   exact tn<|sr<|js (qb oB)<|nt<|ct<|JE.retA rfl (RvOK.tmp rfl)
  ·refine cb<|JC.loop _ (fun s25=>[(0, D RStr s25.1), (1, FV 190 []), (11, D (RInt .i64) s25.2)]) (fun s25=>[]) _ ?_ _ hl18 ml
   intro s25 r24 _ hs21 hB22 hE23
   obtain ⟨v9, v10⟩ := s25
   try dsimp only at hs21
   refine sr<|js (qh ot oi)<|nt<|cs<|cn ot hs21 (fun hc27 hs21=>?_) fun hc27 hs21=>?_
   ·obtain ⟨x28,hx29,hs21⟩ :=ob hs21
    obtain ⟨x30,hx31,hs21⟩ :=ob hs21
    refine ck<|tn<|cs<|cb<|sr<|js (qa ot)<|js (qe oF (strings_Cut_con v9 ([46] : Str) _ hx29) call205 (ze (zc (zo oS) zn)))<|js (qa ot)<|js (qu ot)<|js (qu ot)<|js (qu ot)<|js (qb ot)<|js (qb ot)<|js (qb ot)<|nt<|cs<|sr<|js (qa ot)<|js (qa ot)<|js (qL (F:=[]) ot (name_part_con x28.1 _ hx31) call190 (ze zn) FzE.nil WI.bool)<|js (qr ot)<|nt<|cn ot hs21 (fun hc32 hs21=>?_) fun hc32 hs21=>?_
    ·cases hs21
     cases (hE23 _ rfl)
     cases hm
     exact sr<|js (qb oB)<|nt<|ct<|tr<|br<|tr<|tr<|br<|tr<|tr<|JE.retA rfl (RvOK.tmp rfl)
    ·refine ck<|tn<|cs<|sr<|js (qa ot)<|js (qr ot)<|nt<|cn ot hs21 (fun hc33 hs21=>?_) fun hc33 hs21=>?_
     ·cases hs21
      cases (hE23 _ rfl)
      cases hm
      exact sr<|js (qb oB)<|nt<|ct<|tr<|br<|tr<|tr<|br<|tr<|tr<|JE.retA rfl (RvOK.tmp rfl)
     ·cases hs21
      exact ck<|tn<|cr<|js (qa ot)<|js (qb ot)<|jn<|bn<|tn<|cr<|js (qk ot oi)<|js (qa ot)<|jn<|mt (hB22 _ rfl)
   ·cases hs21
    cases (hE23 _ rfl)
    exact cx<|tx<|tx<|bx<|mt (hK19 _ rfl)
theorem name_Topic_con (a0) (r) (hm : name_Topic a0 = some r) : PC 162 [D RStr a0] (D RBool r) := by
 refine PI func162 fun w O=>?_
 unfold name_Topic at hm
 obtain ⟨x1,hx2,hm⟩ :=ob hm
 cases hm
 exact sr<|js (qb oB)<|nt<|sr<|js (qa ot)<|js (qe oF (name_all__name_part_con a0 _ hx2) call188 (ze (zc (OpdF.fv oF FzE.nil) zn)))<|js (qb ot)<|nt<|ct<|JE.retA rfl (RvOK.tmp rfl)
theorem num_Unpack_con (a0) (r) (hm : num_Unpack a0 = some r) : PC 159 [D RStr a0] (TUP [D (RInt .u64) r.1,D (RInt .i64) r.2.1,D (RInt .i64) r.2.2]) := by
 refine PI func159 fun w O=>?_
 unfold num_Unpack at hm
 obtain ⟨e37,hl35,hm⟩ :=ob hm
 refine sr<|js (qb oi)<|js (qb oi)<|js (qb oi)<|nt<|sr<|js (qb oi)<|nt<|cs<|sr<|js (qa ot)<|js (qD ot u9)<|js (vJ ot oi)<|js (qa oi)<|nt<|JC.joinS e37 (fun s43=>[(0, D RStr a0)]) (fun s43=>[]) (fun s43 he=>?_) (fun _ hK36=>?_)
 ·cases he
  try dsimp only at hm
  refine tn<|cs<|sr<|js (qa ot)<|js (qD ot u9)<|js (qh ot oi)<|nt<|cn ot hm (fun hc44 hm=>?_) fun hc44 hm=>?_
  ·cases hm
   exact sr<|js (qb oi)<|js (qb oi)<|js (qb oi)<|nt<|ct<|tr<|JE.retC rfl (RvOK.tmp rfl) (RvOK.tmp rfl) (RvOK.tmp rfl)
  ·cases hm
   exact ck<|tn<|sr<|js (qb oi)<|js (qb oi)<|js (qb oi)<|nt<|ct<|JE.retC rfl (RvOK.tmp rfl) (RvOK.tmp rfl) (RvOK.tmp rfl)
 ·refine cb<|JC.loop _ (fun s42=>[(0, D RStr a0), (5, D (RInt .u64) s42.1), (10, D (RInt .i64) (min (List.length a0 : Int) (10 : Int))), (11, D (RInt .i64) s42.2)]) (fun s42=>[]) _ ?_ _ hl35 ml
  intro s42 r41 _ hs38 hB39 hE40
  obtain ⟨v17, v18⟩ := s42
  try dsimp only at hs38
  refine sr<|js (qh ot ot)<|nt<|cs<|cn ot hs38 (fun hc45 hs38=>?_) fun hc45 hs38=>?_
  ·obtain ⟨hb46,hs38⟩ :=og hs38
   obtain ⟨hb47,hs38⟩ :=og hs38
   refine ck<|tn<|cs<|cb<|sr<|js (qa ot)<|js (qb ot)<|nt<|sr<|js (qa ot)<|js (qa ot)<|js (qU ot ot u9 hb46)<|js (qb ot)<|nt<|sr<|js (qa ot)<|js (qa ot)<|js (vm ot oi)<|js (qA ot u5 u46)<|js (qa ot)<|js (vK oi ot)<|js (vi ot ot hb47)<|js (vz ot ot)<|js (qb ot)<|nt<|cs<|sr<|js (qa ot)<|js (qI ot oi)<|nt<|cn ot hs38 (fun hc48 hs38=>?_) fun hc48 hs38=>?_
   ·cases hs38
    exact cx<|tx<|bx<|tn<|cr<|js (qk ot oi)<|js (qa ot)<|jn<|mt (hB39 _ rfl)
   ·refine ck<|tn<|cs<|sr<|js (qa ot)<|js (qy ot oi)<|js (qa ot)<|jg (fun hg49=>qa ot)<|jg (fun hg50=>qs (ow hg50) oi)<|js (ql ot (fun hk51 => ow hk51))<|js (qa ot)<|jg (fun hg52=>qa ot)<|jg (fun hg53=>qy (ow hg53) oi)<|jg (fun hg54=>qa (ow hg54))<|jh (fun hg55=>qa ot)<|jh (fun hg56=>qs (ow hg56) oi)<|jg (fun hg57=>ql (ow hg57) (fun hk58 => ow (And.intro hg57 hk58)))<|js (qm ot (fun hk59 => ow hk59))<|nt<|cn ot hs38 (fun hc60 hs38=>?_) fun hc60 hs38=>?_
    ·cases hs38
     cases (hE40 _ rfl)
     cases hm
     exact sr<|js (qb oi)<|js (qb oi)<|js (qb oi)<|nt<|ct<|tr<|br<|tr<|tr<|br<|tr<|tr<|JE.retC rfl (RvOK.tmp rfl) (RvOK.tmp rfl) (RvOK.tmp rfl)
    ·cases hs38
     cases (hE40 _ rfl)
     cases hm
     exact ck<|tn<|sr<|js (qa ot)<|js (qa ot)<|js (qk ot oi)<|js (qb ot)<|js (qb ot)<|js (qb oi)<|nt<|ct<|br<|tr<|tr<|br<|tr<|tr<|JE.retC rfl (RvOK.tmp rfl) (RvOK.tmp rfl) (RvOK.tmp rfl)
  ·cases hs38
   cases (hE40 _ rfl)
   exact cx<|tx<|tx<|bx<|mt (hK36 _ rfl)
theorem event_reader_number_o0_con (a1) (o0) (r) (hm : event_reader_number_o0 a1 o0 = some r) : SC 170 [(0,Box R_event_reader 241 o0)] [BP 0 0,D (RInt .u64) a1] [(0,Box R_event_reader 241 r.2)] (D (RInt .u64) r.1) := by
 refine SI func170 (fun gs=>[(0, BoxAt (IsV (gs 0)) R_event_reader 241 o0)]) (fun gs=>(.box .nil)) fun w O gs own hk=>?_
 unfold event_reader_number_o0 at hm
 refine sr<|js (qb oi)<|nt<|cs<|sr<|js (qa ot)<|js (qt ot)<|js (qc ot (fp pl241))<|js (qd ot fo_event_reader_2 ty30)<|js (qw ot oi)<|nt<|cn ot hm (fun hc1 hm=>?_) fun hc1 hm=>?_
 ·cases hm
  exact sr<|js (qb oi)<|nt<|ct<|tr<|JE.retSA hk (.box rfl .nil) (.box rfl .nil) rfl (RvS.tmp rfl)
 ·obtain ⟨hb2,hm⟩ :=og hm
  obtain ⟨x3,hx4,hm⟩ :=ob hm
  refine ck<|tn<|cs<|cd mixed (da [0] (gu (qa ot))<|da [14] (gu (qt ot))<|da [15] (gu (qc (off:=0) ot (fp pl241)))<|db [16] [0] [] (gu (qd (get:=fun d => event_reader.s_ d) ot fo_event_reader_0 ty9))<|da [0] (gu (qa ot))<|da [18] (gu (qt ot))<|da [19] (gu (qc (off:=1) ot (fp pl241)))<|db [20] [0] [] (gu (qd (get:=fun d => event_reader.at_ d) ot fo_event_reader_1 ty3))<|da [17,21] (gu (vc ot ot u9 hb2))<|da [22] (gu (qe oF (num_Unpack_con (List.drop (Int.toNat (event_reader.at_ o0)) (event_reader.s_ o0)) _ hx4) call159 (zc (zo ot) zn)))<|da [23] (gu (qa ot))<|da [13] (gu (qu ot))<|da [13] (gu (qu ot))<|da [13] (gu (qu ot))<|da [24] (gu (qb ot))<|da [25] (gu (qb ot))<|an)<|jv [0,1,5,6,26] [0] ?_
  obtain ⟨v10,hj11,hm⟩ :=ob hm
  refine js (qb ot)<|nt<|cs<|sr<|js (qa ot)<|js (qy ot oi)<|js (qa ot)<|jg (fun hg5=>qa ot)<|jg (fun hg6=>qa ot)<|jg (fun hg7=>qs (ow hg7) (ow hg7))<|js (ql ot (fun hk8 => ow hk8))<|nt<|JC.join [(0, BP 0 0), (5, D (RInt .u64) x3.1), (6, D (RInt .i64) x3.2.1), (7, D (RInt .i64) v10)] [(0, BoxAt (IsV (gs 0)) R_event_reader 241 o0)] ?_ (fun _ hK12=>?_)
  ·refine tn<|cs<|sr<|js (qa ot)<|js (qw ot oi)<|nt<|cn ot hm (fun hc14 hm=>?_) fun hc14 hm=>?_
   ·cases hm
    exact sr<|js (qa ot)<|js (qa ot)<|js (qt ot)<|js (qc ot (fp pl241))<|js (qv ot ot fs_event_reader_2 ty30)<|nt<|sr<|js (qb oi)<|nt<|ct<|tr<|JE.retSA hk (.box rfl .nil) (.box rfl .nil) rfl (RvS.tmp rfl)
   ·cases hm
    exact ck<|tn<|sr<|js (qa ot)<|js (qt ot)<|js (qc ot (fp pl241))<|js (qd ot fo_event_reader_1 ty3)<|js (qa ot)<|js (qk ot ot)<|js (qt ot)<|js (qc ot (fp pl241))<|js (qv ot ot fs_event_reader_1 ty3)<|nt<|sr<|js (qa ot)<|js (qb ot)<|nt<|ct<|JE.retSA hk (.box rfl .nil) (.box rfl .nil) rfl (RvS.tmp rfl)
  ·refine cn ot hj11 (fun hc16 hj11=>?_) fun hc16 hj11=>?_
   ·cases hj11
    exact cr<|js (qb oi)<|jn<|mt hK12
   ·cases hj11
    exact ck<|mt hK12
theorem event_reader_text_o0_con (a1) (o0) (r) (hm : event_reader_text_o0 a1 o0 = some r) : SC 169 [(0,Box R_event_reader 241 o0)] [BP 0 0,D (RInt .u64) a1] [(0,Box R_event_reader 241 r.2)] (D RStr r.1) := by
 refine SI func169 (fun gs=>[(0, BoxAt (IsV (gs 0)) R_event_reader 241 o0)]) (fun gs=>(.box .nil)) fun w O gs own hk=>?_
 unfold event_reader_text_o0 at hm
 obtain ⟨x1,hx2,hm⟩ :=ob hm
 refine sr<|js (qb oS)<|nt<|sr<|js (qa ot)<|js (qa ot)<|js (qg (σ:=[(0, 0)]) oF (event_reader_number_o0_con a1 o0 _ hx2) call170 (.cons ot (Ren.bp rfl) (.cons ot Ren.dat .nil)) .nil (.box rfl .nil) RenB.dat)<|js (qA ot u46 u3)<|js (qb ot)<|nt<|cs<|cs<|cd mixed (da [0] (gu (qa ot))<|da [10] (gu (qt ot))<|da [11] (gu (qc (off:=2) ot (fp pl241)))<|db [12] [0] [] (gu (qd (get:=fun d => event_reader.err_ d) ot fo_event_reader_2 ty30))<|da [13] (gu (qy ot oi))<|da [14] (gu (qa ot))<|da [15,5] (gg fun hg3=>qa ot)<|da [15,0] (gg fun hg4=>qa ot)<|da [15,17] (gg fun hg5=>qt (ow hg5))<|da [15,18] (gg fun hg6=>qc (off:=0) (ow hg6) (fp pl241))<|db [15,19] [0] [] (gg fun hg7=>qd (get:=fun d => event_reader.s_ d) (ow hg7) fo_event_reader_0 ty9)<|da [15,20] (gg fun hg8=>qD (ow hg8) u9)<|da [15,0] (gg fun hg9=>qa ot)<|da [15,22] (gg fun hg10=>qt (ow hg10))<|da [15,23] (gg fun hg11=>qc (off:=1) (ow hg11) (fp pl241))<|db [15,24] [0] [] (gg fun hg12=>qd (get:=fun d => event_reader.at_ d) (ow hg12) fo_event_reader_1 ty3)<|da [15,21,25] (gg fun hg13=>qE (ow hg13) (ow hg13))<|da [15,16,26] (gg fun hg14=>qs (ow hg14) (ow hg14))<|da [15,27] (gu (ql ot (fun hk15 => ow hk15)))<|an)<|jv [0,5,28] [0] ?_
 obtain ⟨v17,hj18,hm⟩ :=ob hm
 refine nt<|JC.join [(0, BP 0 0), (5, D (RInt .i64) (IntKind.i64.wrap x1.1))] [(0, BoxAt (IsV (gs 0)) R_event_reader 241 v17)] ?_ (fun _ hK19=>?_)
 ·refine tn<|cs<|sr<|js (qa ot)<|js (qt ot)<|js (qc ot (fp pl241))<|js (qd ot fo_event_reader_2 ty30)<|js (qw ot oi)<|nt<|cn ot hm (fun hc21 hm=>?_) fun hc21 hm=>?_
  ·cases hm
   exact sr<|js (qb oS)<|nt<|ct<|tr<|JE.retSA hk (.box rfl .nil) (.box rfl .nil) rfl (RvS.tmp rfl)
  ·obtain ⟨hb22,hm⟩ :=og hm
   refine ck<|tn<|sr<|js (qa ot)<|js (qt ot)<|js (qc ot (fp pl241))<|js (qd ot fo_event_reader_1 ty3)<|js (qa ot)<|js (qk ot ot)<|js (qt ot)<|js (qc ot (fp pl241))<|js (qv ot ot fs_event_reader_1 ty3)<|nt<|cs<|cd mixed (da [0] (gu (qa ot))<|da [45] (gu (qt ot))<|da [46] (gu (qc (off:=0) ot (fp pl241)))<|db [47] [0] [] (gu (qd (get:=fun d => event_reader.s_ d) ot fo_event_reader_0 ty9))<|da [0] (gu (qa ot))<|da [49] (gu (qt ot))<|da [50] (gu (qc (off:=1) ot (fp pl241)))<|db [51] [0] [] (gu (qd (get:=fun d => event_reader.at_ d) ot fo_event_reader_1 ty3))<|da [5] (gu (qa ot))<|da [52,53] (gu (qE ot ot))<|da [0] (gu (qa ot))<|da [55] (gu (qt ot))<|da [56] (gu (qc (off:=1) ot (fp pl241)))<|db [57] [0] [] (gu (qd (get:=fun d => event_reader.at_ d) ot fo_event_reader_1 ty3))<|da [48,54,58] (gu (vA ot ot ot u9 hb22))<|an)<|jv [59] [0] ?_
   cases hm
   exact js (qb ot)<|nt<|ct<|JE.retSA hk (.box rfl .nil) (.box rfl .nil) rfl (RvS.tmp rfl)
 ·refine cn ot hj18 (fun hc24 hj18=>?_) fun hc24 hj18=>?_
  ·cases hj18
   exact cr<|js (qa ot)<|js (qt ot)<|js (qc ot (fp pl241))<|js (qv ot oi fs_event_reader_2 ty30)<|jn<|mt hK19
  ·cases hj18
   exact ck<|mt hK19
theorem num_Unfold_con (a0) (r) (hm : num_Unfold a0 = r) : PC 137 [D (RInt .u64) a0] (D (RInt .i64) r) := by
 refine PI func137 fun w O=>?_
 unfold num_Unfold at hm
 refine sr<|js (qb oi)<|nt<|cs<|sr<|js (qa ot)<|js (vm ot oi)<|js (qy ot oi)<|nt<|cn ot hm (fun hc1 hm=>?_) fun hc1 hm=>?_
 ·cases hm
  exact sr<|js (qa ot)<|js (vk ot oi)<|js (qA ot u46 u2)<|js (qb ot)<|nt<|ct<|tr<|JE.retA rfl (RvOK.tmp rfl)
 ·cases hm
  exact ck<|tn<|sr<|js (qa ot)<|js (vk ot oi)<|js (qA ot u46 u2)<|js (vv ot)<|js (qE ot oi)<|js (qb ot)<|nt<|ct<|JE.retA rfl (RvOK.tmp rfl)
theorem val_Take_con (a0) (r) (hm : val_Take a0 = some r) : PC 202 [D RStr a0] (TUP [D R_api_Value r.1,D (RInt .i64) r.2.1,D (RInt .i64) r.2.2]) := by
 refine PI func202 fun w O=>?_
 unfold val_Take at hm
 refine sr<|js (qp (i:=1) zero118)<|js (qb oi)<|js (qb oi)<|nt<|cs<|sr<|js (qa ot)<|js (qz ot oS)<|nt<|cn ot hm (fun hc1 hm=>?_) fun hc1 hm=>?_
 ·cases hm
  exact sr<|js (qF pl118 zero118 Fill.nil)<|js (qo ot ot ty118)<|js (qb oi)<|js (qb oi)<|nt<|ct<|tr<|JE.retC rfl (RvOK.cell rfl rfl ty118) (RvOK.tmp rfl) (RvOK.tmp rfl)
 ·obtain ⟨hb2,hm⟩ :=og hm
  refine ck<|tn<|sr<|js (qa ot)<|js (qU ot oi u9 hb2)<|js (qb ot)<|nt<|cs<|sr<|js (qa ot)<|js (qw ot oi)<|js (qa ot)<|jg (fun hg3=>qa ot)<|jg (fun hg4=>qw (ow hg4) oi)<|js (ql ot (fun hk5 => ow hk5))<|nt<|cn ot hm (fun hc6 hm=>?_) fun hc6 hm=>?_
  ·cases hm
   exact sr<|js (qF pl118 zero118 Fill.nil)<|js (qo ot ot ty118)<|js (qb oi)<|js (qb oi)<|nt<|ct<|tr<|JE.retC rfl (RvOK.cell rfl rfl ty118) (RvOK.tmp rfl) (RvOK.tmp rfl)
  ·obtain ⟨hb7,hm⟩ :=og hm
   obtain ⟨x8,hx9,hm⟩ :=ob hm
   refine ck<|tn<|sr<|js (qa ot)<|js (vc ot oi u9 hb7)<|js (qe oF (num_Unpack_con (List.drop (Int.toNat (1 : Int)) a0) _ hx9) call159 (ze zn))<|js (qa ot)<|js (qu ot)<|js (qu ot)<|js (qu ot)<|js (qb ot)<|js (qb ot)<|js (qb ot)<|nt<|cs<|sr<|js (qa ot)<|js (qw ot oi)<|nt<|cn ot hm (fun hc10 hm=>?_) fun hc10 hm=>?_
   ·cases hm
    exact sr<|js (qF pl118 zero118 Fill.nil)<|js (qa ot)<|js (qo ot ot ty118)<|js (qb oi)<|js (qb ot)<|nt<|ct<|tr<|JE.retC rfl (RvOK.cell rfl rfl ty118) (RvOK.tmp rfl) (RvOK.tmp rfl)
   ·refine ck<|tn<|sr<|js (qa ot)<|js (qk ot oi)<|js (qb ot)<|nt<|cs<|sr<|js (qa ot)<|js (qy ot oi)<|nt<|cn ot hm (fun hc11 hm=>?_) fun hc11 hm=>?_
    ·cases hm
     exact sr<|js (qa ot)<|js (qe oF (num_Unfold_con x8.1 _ rfl) call137 (ze zn))<|js (qF pl118 zero118 (Fill.cons rfl oB fs_api_Value_0 (Fill.cons rfl ot fs_api_Value_1 Fill.nil)))<|js (qa ot)<|js (qo ot ot ty118)<|js (qb ot)<|js (qb oi)<|nt<|ct<|tr<|JE.retC rfl (RvOK.cell rfl rfl ty118) (RvOK.tmp rfl) (RvOK.tmp rfl)
    ·refine ck<|tn<|cs<|sr<|js (qa ot)<|js (qs ot oi)<|nt<|cn ot hm (fun hc12 hm=>?_) fun hc12 hm=>?_
     ·cases hm
      exact sr<|js (qF pl118 zero118 Fill.nil)<|js (qo ot ot ty118)<|js (qb oi)<|js (qb oi)<|nt<|ct<|tr<|JE.retC rfl (RvOK.cell rfl rfl ty118) (RvOK.tmp rfl) (RvOK.tmp rfl)
     ·refine ck<|tn<|sr<|js (qa ot)<|js (qa ot)<|js (qA ot u46 u3)<|js (qk ot ot)<|js (qb ot)<|nt<|cs<|sr<|js (qa ot)<|js (qa ot)<|js (qD ot u9)<|js (qs ot ot)<|nt<|cn ot hm (fun hc13 hm=>?_) fun hc13 hm=>?_
      ·cases hm
       exact sr<|js (qF pl118 zero118 Fill.nil)<|js (qo ot ot ty118)<|js (qb oi)<|js (qb oi)<|nt<|ct<|tr<|JE.retC rfl (RvOK.cell rfl rfl ty118) (RvOK.tmp rfl) (RvOK.tmp rfl)
      ·obtain ⟨hb14,hm⟩ :=og hm
       cases hm
       exact ck<|tn<|sr<|js (qa ot)<|js (qa ot)<|js (qa ot)<|js (vA ot ot ot u9 hb14)<|js (qF pl118 zero118 (Fill.cons rfl ot fs_api_Value_2 Fill.nil))<|js (qa ot)<|js (qo ot ot ty118)<|js (qb ot)<|js (qb oi)<|nt<|ct<|JE.retC rfl (RvOK.cell rfl rfl ty118) (RvOK.tmp rfl) (RvOK.tmp rfl)
theorem event_reader_value_o0_con (o0) (r) (hm : event_reader_value_o0 o0 = some r) : SC 171 [(0,Box R_event_reader 241 o0)] [BP 0 0] [(0,Box R_event_reader 241 r.2)] (D R_api_Value r.1) := by
 refine SI func171 (fun gs=>[(0, BoxAt (IsV (gs 0)) R_event_reader 241 o0)]) (fun gs=>(.box .nil)) fun w O gs own hk=>?_
 unfold event_reader_value_o0 at hm
 refine sr<|js (qp (i:=2) zero118)<|nt<|cs<|sr<|js (qa ot)<|js (qt ot)<|js (qc ot (fp pl241))<|js (qd ot fo_event_reader_2 ty30)<|js (qw ot oi)<|nt<|cn ot hm (fun hc1 hm=>?_) fun hc1 hm=>?_
 ·cases hm
  exact sr<|js (qF pl118 zero118 Fill.nil)<|js (qo ot ot ty118)<|nt<|ct<|tr<|JE.retSA hk (.box rfl .nil) (.box rfl .nil) rfl (RvS.cell rfl rfl ty118)
 ·obtain ⟨hb2,hm⟩ :=og hm
  obtain ⟨x3,hx4,hm⟩ :=ob hm
  refine ck<|tn<|cs<|cd mixed (da [0] (gu (qa ot))<|da [13] (gu (qt ot))<|da [14] (gu (qc (off:=0) ot (fp pl241)))<|db [15] [0] [] (gu (qd (get:=fun d => event_reader.s_ d) ot fo_event_reader_0 ty9))<|da [0] (gu (qa ot))<|da [17] (gu (qt ot))<|da [18] (gu (qc (off:=1) ot (fp pl241)))<|db [19] [0] [] (gu (qd (get:=fun d => event_reader.at_ d) ot fo_event_reader_1 ty3))<|da [16,20] (gu (vc ot ot u9 hb2))<|da [21] (gu (qe oF (val_Take_con (List.drop (Int.toNat (event_reader.at_ o0)) (event_reader.s_ o0)) _ hx4) call202 (zc (zo ot) zn)))<|da [22] (gu (qa ot))<|da [12] (gu (qu ot))<|da [12] (gu (qu ot))<|da [12] (gu (qu ot))<|dd [] [] [3] (gu (qp (i:=3) zero118))<|dc [3,23] [3] [] (gu (qo ot ot ty118))<|da [24] (gu (qb ot))<|an)<|jv [0,2,3,4,25] [0,2,3] ?_
  cases hm
  exact js (qb ot)<|nt<|sr<|js (qa ot)<|js (qa ot)<|js (qa ot)<|js (qt ot)<|js (qc ot (fp pl241))<|js (qd ot fo_event_reader_1 ty3)<|js (qa ot)<|js (qk ot ot)<|js (qa ot)<|js (qt ot)<|js (qc ot (fp pl241))<|js (qv ot ot fs_event_reader_1 ty3)<|js (qt ot)<|js (qc ot (fp pl241))<|js (qv ot ot fs_event_reader_2 ty30)<|nt<|sr<|js (qn ot ty118)<|js (qo ot ot ty118)<|nt<|ct<|JE.retSA hk (.box rfl .nil) (.box rfl .nil) rfl (RvS.cell rfl rfl ty118)
theorem event_Field_con (a0) (r) (hm : event_Field a0 = some r) : PC 113 [D RStr a0] (D RBool r) := by
 refine PI func113 fun w O=>?_
 unfold event_Field at hm
 obtain ⟨x3,hx4,hm⟩ :=ob hm
 obtain ⟨x9,hx10,hm⟩ :=ob hm
 cases hm
 exact sr<|js (qb oB)<|nt<|sr<|js (qa ot)<|js (qD ot u9)<|js (qN ot oi)<|js (qa ot)<|jg (fun hg1=>qa ot)<|jg (fun hg2=>qe oF (strings_Contains_con a0 ([46] : Str) _ (of_pos hg2 hx4)) call164 (zc (zo (ow hg2)) (zc (zo oS) zn)))<|jg (fun hg5=>qr (ow hg5))<|js (ql ot (fun hk6 => ow hk6))<|js (qa ot)<|jg (fun hg7=>qa ot)<|jg (fun hg8=>qe oF (name_Topic_con a0 _ (of_pos hg8 hx10)) call162 (zc (zo (ow hg8)) zn))<|js (ql ot (fun hk11 => ow hk11))<|js (qb ot)<|nt<|ct<|JE.retA rfl (RvOK.tmp rfl)
theorem val_May_con (a0) (r) (hm : val_May a0 = r) : PC 203 [D R_api_Value a0] (D RBool r) := by
 refine PI func203 fun w O=>?_
 unfold val_May at hm
 refine sr<|js (qq (i:=1) ot)<|js (qb oB)<|nt<|cs<|sr<|js (qc ot (fp pl118))<|js (qd ot fo_api_Value_0 ty4)<|nt<|cn ot hm (fun hc1 hm=>?_) fun hc1 hm=>?_
 ·cases hm
  exact sr<|js (qc ot (fp pl118))<|js (qd ot fo_api_Value_2 ty9)<|js (qz ot oS)<|js (qb ot)<|nt<|ct<|tr<|JE.retA rfl (RvOK.tmp rfl)
 ·cases hm
  exact ck<|tn<|sr<|js (qc ot (fp pl118))<|js (qd ot fo_api_Value_1 ty2)<|js (qy ot oi)<|js (qa ot)<|jg (fun hg2=>qc ot (fp pl118))<|jg (fun hg3=>qd (ow hg3) fo_api_Value_2 ty9)<|jg (fun hg4=>qD (ow hg4) u9)<|jg (fun hg5=>qN (ow hg5) oi)<|js (ql ot (fun hk6 => ow hk6))<|js (qb ot)<|nt<|ct<|JE.retA rfl (RvOK.tmp rfl)
theorem event_May_con (a0) (r) (hm : event_May a0 = some r) : PC 172 [D R_api_Event a0] (D RBool r) := by
 refine PI func172 fun w O=>?_
 unfold event_May at hm
 obtain ⟨x1,hx2,hm⟩ :=ob hm
 obtain ⟨x6,hx7,hm⟩ :=ob hm
 refine sr<|js (qq (i:=1) ot)<|js (qb oB)<|nt<|cs<|sr<|js (qc ot (fp pl92))<|js (qd ot fo_api_Event_0 ty9)<|js (qe oF (name_Topic_con (api_Event.Topic a0) _ hx2) call162 (ze zn))<|js (qr ot)<|js (qa ot)<|jg (fun hg3=>qc ot (fp pl92))<|jg (fun hg4=>qd (ow hg4) fo_api_Event_1 ty9)<|jg (fun hg5=>qe oF (event_Field_con (api_Event.Producer a0) _ (of_pos hg5 hx7)) call113 (zc (zo (ow hg5)) zn))<|jg (fun hg8=>qr (ow hg8))<|js (qm ot (fun hk9 => ow hk9))<|js (qa ot)<|jg (fun hg10=>qc ot (fp pl92))<|jg (fun hg11=>qd (ow hg11) fo_api_Event_2 ty46)<|jg (fun hg12=>qh (ow hg12) oi)<|js (qm ot (fun hk13 => ow hk13))<|js (qa ot)<|jg (fun hg14=>qc ot (fp pl92))<|jg (fun hg15=>qd (ow hg15) fo_api_Event_3 ty90)<|jg (fun hg16=>qf (ow hg16) u90)<|jg (fun hg17=>qs (ow hg17) oi)<|js (qm ot (fun hk18 => ow hk18))<|nt<|cn ot hm (fun hc19 hm=>?_) fun hc19 hm=>?_
 ·cases hm
  exact sr<|js (qb oB)<|nt<|ct<|tr<|JE.retA rfl (RvOK.tmp rfl)
 ·obtain ⟨e77,hl75,hm⟩ :=ob hm
  refine ck<|tn<|cs<|sr<|js (qc ot (fp pl92))<|js (qd ot fo_api_Event_3 ty90)<|js (qf ot u90)<|js (qa oi)<|nt<|JC.joinS e77 (fun s83=>[]) (fun s83=>[]) (fun s83 he=>?_) (fun _ hK76=>?_)
  ·cases he
   try dsimp only at hm
   cases hm
   exact tn<|sr<|js (qb oB)<|nt<|ct<|JE.retA rfl (RvOK.tmp rfl)
  ·refine cb<|JC.loop _ (fun s82=>[(1, BP 1 0), (27, D (RSlice R_api_Field) (api_Event.L a0)), (28, D (RInt .i64) (List.length (api_Event.L a0) : Int)), (29, D (RInt .i64) s82)]) (fun s82=>[(1, Box R_api_Event 92 a0)]) _ ?_ _ hl75 ml
   intro v47 r81 _ hs78 hB79 hE80
   try dsimp only at hs78
   refine sr<|js (qh ot ot)<|nt<|cs<|cn ot hs78 (fun hc84 hs78=>?_) fun hc84 hs78=>?_
   ·obtain ⟨hb85,hs78⟩ :=og hs78
    obtain ⟨x86,hx87,hs78⟩ :=ob hs78
    obtain ⟨hb101,hs78⟩ :=og hs78
    refine ck<|tn<|cs<|cb<|sr<|js (qa ot)<|js (qj ot ot u90 ty202 hb85)<|js (qi ot ty202)<|js (qp (i:=4) zero202)<|js (qb ot)<|js (qo ot ot ty202)<|nt<|cs<|cd mixed (da [4] (gu (qc (off:=0) ot (fp pl202)))<|db [34] [4] [] (gu (qd (get:=fun d => api_Field.Name d) ot fo_api_Field_0 ty9))<|da [35] (gu (qe oF (event_Field_con (api_Field.Name (nth (api_Event.L a0) v47)) _ hx87) call113 (zc (zo ot) zn)))<|da [36] (gu (qr ot))<|da [37] (gu (qa ot))<|da [38,4] (gg fun hg88=>qc (off:=1) ot (fp pl202))<|db [38,39] [4] [] (gg fun hg89=>qd (get:=fun d => api_Field.V d) (ow hg89) fo_api_Field_1 ty118)<|da [38,40] (gg fun hg90=>qe oF (val_May_con (api_Field.V (nth (api_Event.L a0) v47)) _ rfl) call203 (zc (zo (ow hg90)) zn))<|da [38,41] (gg fun hg91=>qr (ow hg91))<|da [38,42] (gu (qm ot (fun hk92 => ow hk92)))<|da [43] (gu (qa ot))<|da [44,3] (gg fun hg93=>qa ot)<|da [44,45] (gg fun hg94=>qs (ow hg94) oi)<|da [44,46] (gg fun hg95=>qa (ow hg95))<|da [47,1] (gh fun hg96=>qc (off:=3) ot (fp pl92))<|db [47,48] [1] [] (gh fun hg97=>qd (get:=fun d => api_Event.L d) (ow hg97) fo_api_Event_3 ty90)<|da [47,3] (gh fun hg98=>qa ot)<|da [47,50] (gh fun hg99=>qE (ow hg99) oi)<|da [47,49,51] (gh fun hg100=>qj (ow hg100) (ow hg100) u90 ty202 (hb101 hg100))<|da [47,52] (gh fun hg102=>qx (ow hg102) (fp pl202) fo_api_Field_0)<|da [47,53] (gh fun hg103=>qi (ow hg103) ty9)<|da [47,4] (gh fun hg104=>qc (off:=0) ot (fp pl202))<|db [47,55] [4] [] (gh fun hg105=>qd (get:=fun d => api_Field.Name d) (ow hg105) fo_api_Field_0 ty9)<|da [47,54,56] (gh fun hg106=>qY (ow hg106) (ow hg106))<|da [44,47,57] (gg fun hg107=>ql (ow hg107) (fun hk108 => ow (And.intro hg107 hk108)))<|da [44,58] (gu (qm ot (fun hk109 => ow hk109)))<|an)<|jv [1,27,28,29,59] [1] ?_
    refine nt<|cn ot hs78 (fun hc110 hs78=>?_) fun hc110 hs78=>?_
    ·cases hs78
     cases (hE80 _ rfl)
     cases hm
     exact sr<|js (qb oB)<|nt<|ct<|br<|tr<|tr<|br<|tr<|tr<|JE.retA rfl (RvOK.tmp rfl)
    ·cases hs78
     exact ck<|bn<|tn<|cr<|js (qk ot oi)<|js (qa ot)<|jn<|mt (hB79 _ rfl)
   ·cases hs78
    cases (hE80 _ rfl)
    exact cx<|tx<|tx<|bx<|mt (hK76 _ rfl)
theorem event_Take_con (a0) (r) (hm : event_Take a0 = some r) : PC 116 [D RStr a0] (TUP [D R_api_Event r.1,D (RInt .i64) r.2.1,D (RInt .i64) r.2.2]) := by
 refine PI func116 fun w O=>?_
 unfold event_Take at hm
 refine sr<|js (qp (i:=1) zero92)<|js (qb oi)<|js (qb oi)<|nt<|sr<|js (qa ot)<|js (qF pl241 zero241 (Fill.cons rfl ot fs_event_reader_0 Fill.nil))<|js (qp (i:=2) zero241)<|js (qo ot ot ty241)<|nt<|sr<|js (qp (i:=3) zero92n3) ?_
 refine JL.imp (Imp.asHole 3 rfl) ?_
 refine JL.imp (Imp.openP 3 4 202 R_api_Field (hs2 := [(3, OS 4)]) rfl rfl rfl (by rfl) (by rfl) (by exact (.cons rfl .nil))) ?_
 refine JL.imp (Imp.openEnd 3 rfl) ?_
 obtain ⟨x1,hx2,hm⟩ :=ob hm
 obtain ⟨x3,hx4,hm⟩ :=ob hm
 obtain ⟨x5,hx6,hm⟩ :=ob hm
 obtain ⟨x7,hx8,hm⟩ :=ob hm
 obtain ⟨⟨v11,v12⟩,hj13,hm⟩ :=ob hm
 refine nt<|sr<|js (qg (σ:=[(0, 2)]) oF (event_reader_text_o0_con (40 : Int) (⟨a0, 0, 0⟩ : event_reader) _ hx2) call169 (.cons ot (Ren.bp rfl) (.cons oi Ren.dat .nil)) .nil (.box rfl .nil) RenB.dat)<|js (qc ot (fp pl92))<|js (vd ot ot fs_api_Event_0 ty9)<|nt<|sr<|js (qg (σ:=[(0, 2)]) oF (event_reader_text_o0_con (16 : Int) x1.2 _ hx4) call169 (.cons ot (Ren.bp rfl) (.cons oi Ren.dat .nil)) .nil (.box rfl .nil) RenB.dat)<|js (qc ot (fp pl92))<|js (vd ot ot fs_api_Event_1 ty9)<|nt<|sr<|js (qg (σ:=[(0, 2)]) oF (event_reader_number_o0_con (18446744073709551615 : Int) x3.2 _ hx6) call170 (.cons ot (Ren.bp rfl) (.cons oi Ren.dat .nil)) .nil (.box rfl .nil) RenB.dat)<|js (qc ot (fp pl92))<|js (vd ot ot fs_api_Event_2 ty46)<|nt<|cs<|sr<|js (qg (σ:=[(0, 2)]) oF (event_reader_number_o0_con (8 : Int) x5.2 _ hx8) call170 (.cons ot (Ren.bp rfl) (.cons oi Ren.dat .nil)) .nil (.box rfl .nil) RenB.dat)<|js (qb ot)<|nt<|sr<|js (qa ot)<|js (qs ot oi)<|nt<|JC.join [(2, BP 1 0), (5, BP 2 0), (6, BP 3 0)] [(1, Box R_api_Event 92 z_api_Event), (2, Box R_event_reader 241 x7.2), (3, BoxH Any R_api_Event 92 v11 [(3, OS 5)]), (5, OwnSl R_api_Field 202 v12)] ?_ (fun _ hK14=>?_)
 ·obtain ⟨⟨v33,v34⟩,hl35,hm⟩ :=ob hm
  refine tn<|cs<|sr<|js (qc ot (fp pl92))<|js (qJ ot ty90)<|js (qX ot u90)<|js (qa oi)<|nt<|JC.join [(2, BP 1 0), (5, BP 2 0), (6, BP 3 0)] [(1, Box R_api_Event 92 z_api_Event), (2, Box R_event_reader 241 v33), (3, BoxH Any R_api_Event 92 v11 [(3, OS 5)]), (5, OwnSl R_api_Field 202 v34)] ?_ (fun _ hK36=>?_)
  ·refine tn<|cs<|sr<|js (qc ot (fp pl241))<|js (qd ot fo_event_reader_2 ty30)<|js (qy ot oi)<|js (qa ot)<|jg (fun hg44=>qc ot (fp pl241))<|jg (fun hg45=>qd (ow hg45) fo_event_reader_1 ty3)<|jg (fun hg46=>qs (ow hg46) oi)<|jg (fun hg47=>qa (ow hg47)) ?_
   refine JL.imp (Imp.frzH 3 5 (o := 3) (ts := []) rfl rfl rfl (by rfl) fs_api_Event_3 (by rfl) .nil) ?_
   refine JL.imp (Imp.asBox 3 rfl) ?_
   obtain ⟨x50,hx51,hm⟩ :=ob hm
   obtain ⟨v57,hj58,hm⟩ :=ob hm
   refine jh (fun hg48=>qn ot ty92)<|jh (fun hg49=>qe oF (event_May_con ({ v11 with L := v34 }) _ (of_pos hg49 hx51)) call172 (zc (zo (ow hg49)) zn))<|jh (fun hg52=>qr (ow hg52))<|jg (fun hg53=>qm (ow hg53) (fun hk54 => ow (And.intro hg53 hk54)))<|js (ql ot (fun hk55 => ow hk55))<|nt<|JC.join [(2, BP 1 0), (5, BP 2 0), (6, BP 3 0)] [(1, Box R_api_Event 92 z_api_Event), (2, Box R_event_reader 241 v57), (3, Box R_api_Event 92 ({ v11 with L := v34 }))] ?_ (fun _ hK59=>?_)
   ·refine tn<|cs<|sr<|js (qc ot (fp pl241))<|js (qd ot fo_event_reader_2 ty30)<|js (qw ot oi)<|nt<|cn ot hm (fun hc61 hm=>?_) fun hc61 hm=>?_
    ·refine cs<|cd mixed (da [] (gu (qF pl92 zero92 Fill.nil))<|da [5] (gu (qc (off:=2) ot (fp pl241)))<|db [60] [2] [] (gu (qd (get:=fun d => event_reader.err_ d) ot fo_event_reader_2 ty30))<|dc [2,59] [1] [] (gu (qo ot ot ty92))<|da [] (gu (qb oi))<|an)<|jv [2,3,61] [1] ?_
     cases hm
     exact js (qb ot)<|nt<|ct<|tr<|JE.retC rfl (RvOK.cell rfl rfl ty92) (RvOK.tmp rfl) (RvOK.tmp rfl)
    ·refine ck<|tn<|cs<|cd mixed (db [6] [3] [] (gu (qn ot ty92))<|da [5] (gu (qc (off:=1) ot (fp pl241)))<|db [63] [2] [] (gu (qd (get:=fun d => event_reader.at_ d) ot fo_event_reader_1 ty3))<|dc [2,62] [1] [] (gu (qo ot ot ty92))<|an)<|jv [2,64] [1] ?_
     cases hm
     exact js (qb ot)<|js (qb oi)<|nt<|ct<|JE.retC rfl (RvOK.cell rfl rfl ty92) (RvOK.tmp rfl) (RvOK.tmp rfl)
   ·refine cn ot hj58 (fun hc63 hj58=>?_) fun hc63 hj58=>?_
    ·cases hj58
     exact cr<|js (qc ot (fp pl241))<|js (qv ot oi fs_event_reader_2 ty30)<|jn<|mt hK59
    ·cases hj58
     exact ck<|mt hK59
  ·refine cb<|JC.loop _ (fun s42=>[(2, BP 1 0), (5, BP 2 0), (6, BP 3 0), (25, D (RInt .i64) (List.length v12 : Int)), (26, D (RInt .i64) s42.1)]) (fun s42=>[(1, Box R_api_Event 92 z_api_Event), (2, Box R_event_reader 241 s42.2.1), (3, BoxH Any R_api_Event 92 v11 [(3, OS 5)]), (5, OwnSl R_api_Field 202 s42.2.2)]) _ ?_ _ hl35 ml
   intro s42 r41 _ hs38 hB39 hE40
   obtain ⟨v23, v24, v25⟩ := s42
   try dsimp only at hs38
   refine sr<|js (qh ot ot)<|nt<|cs<|cn ot hs38 (fun hc64 hs38=>?_) fun hc64 hs38=>?_
   ·obtain ⟨x65,hx66,hs38⟩ :=ob hs38
    refine ck<|tn<|cs<|cb<|sr<|js (qa ot)<|js (qb ot)<|nt<|cs<|cd mixed (da [6] (gu (qc (off:=3) ot (fp pl92)))<|db [29] [3] [] (gu (qJ ot ty90))<|da [8] (gu (qa ot))<|de [5] [2] [] (gu (qg (σ:=[(0, 2)]) oF (event_reader_text_o0_con (16 : Int) v24 _ hx66) call169 (.cons ot (Ren.bp rfl) (.cons oi Ren.dat .nil)) .nil (.box (AOC.get rfl) .nil) RenB.dat))<|an)<|jv [2,5,6,8,25,26,30,31,32] [1,2,3,5] ?_
    obtain ⟨hb67,hs38⟩ :=og hs38
    obtain ⟨x68,hx69,hs38⟩ :=ob hs38
    refine js (qT ot ot u90 ty202 hb67)<|js (qW ot (fp pl202))<|js (ve ot ot fs_api_Field_0 ty9 hb67)<|nt<|cd mixed (da [6] (gu (qc (off:=3) ot (fp pl92)))<|db [35] [3] [] (gu (qJ ot ty90))<|da [8] (gu (qa ot))<|de [5] [2] [] (gu (qg (σ:=[(0, 2)]) oF (event_reader_value_o0_con x65.2 _ hx69) call171 (.cons ot (Ren.bp rfl) .nil) .nil (.box (AOC.get rfl) .nil) RenB.dat))<|an)<|jv [2,5,6,25,26,36,37,38] [1,2,3,5] ?_
    obtain ⟨hb70,hs38⟩ :=og hs38
    cases hs38
    exact js (qT ot ot u90 ty202 hb70)<|js (qW ot (fp pl202))<|js (ve ot ot fs_api_Field_1 ty118 hb70)<|jn<|bn<|tn<|cr<|js (qk ot oi)<|js (qa ot)<|jn<|mt (hB39 _ rfl)
   ·cases hs38
    cases (hE40 _ rfl)
    exact cx<|tx<|tx<|bx<|mt hK36
 ·refine cn ot hj13 (fun hc72 hj13=>?_) fun hc72 hj13=>?_
  ·obtain ⟨hb73,hj13⟩ :=og hj13
   cases hj13
   refine cr<|js (qa ot)<|js (vh (j:=6) ot ot u90 sl202 zero202 hb73)<|js (qc ot (fp pl92))<|js (qO (hs2:=[(3, OS 6)]) ot ot fs_api_Event_3 ty90)<|jn ?_
   exact JE.meetR [(1, 1), (2, 2), (3, 3), (5, 6)] hK14 (by decide) (by decide) (CVR.cons (t := 2) rfl (Ren.bp rfl) (CVR.cons (t := 5) rfl (Ren.bp rfl) (CVR.cons (t := 6) rfl (Ren.bp rfl) CVR.nil))) (OVR.cons (i := 1) rfl RenO.box (OVR.cons (i := 2) rfl RenO.box (OVR.cons (i := 3) rfl (RenO.boxH (.cons (Ren.os rfl) .nil)) (OVR.cons (i := 6) rfl RenO.sl OVR.nil))))
  ·cases hj13
   refine ck ?_
   exact JE.meetR [(1, 1), (2, 2), (3, 3), (5, 4)] hK14 (by decide) (by decide) (CVR.cons (t := 2) rfl (Ren.bp rfl) (CVR.cons (t := 5) rfl (Ren.bp rfl) (CVR.cons (t := 6) rfl (Ren.bp rfl) CVR.nil))) (OVR.cons (i := 1) rfl RenO.box (OVR.cons (i := 2) rfl RenO.box (OVR.cons (i := 3) rfl (RenO.boxH (.cons (Ren.os rfl) .nil)) (OVR.cons (i := 4) rfl RenO.sl OVR.nil))))
theorem topic_of_con (a0) (a1) (r) (hm : topic_of a0 a1 = some r) : PC 163 [D RStr a0,D RStr a1] (D RBool r) := by
 refine PI func163 fun w O=>?_
 unfold topic_of at hm
 obtain ⟨x1,hx2,hm⟩ :=ob hm
 cases hm
 exact sr<|js (qb oB)<|nt<|sr<|js (qa ot)<|js (qe oF (event_Take_con a0 _ hx2) call116 (ze zn))<|js (qa ot)<|js (qu ot)<|js (qu ot)<|js (qu ot)<|js (qp (i:=1) zero92)<|js (qo ot ot ty92)<|js (qb ot)<|js (qb ot)<|nt<|sr<|js (qa ot)<|js (qy ot oi)<|js (qa ot)<|jg (fun hg3=>qa ot)<|jg (fun hg4=>qa ot)<|jg (fun hg5=>qD (ow hg5) u9)<|jg (fun hg6=>qy (ow hg6) (ow hg6))<|js (ql ot (fun hk7 => ow hk7))<|js (qa ot)<|jg (fun hg8=>qc ot (fp pl92))<|jg (fun hg9=>qd (ow hg9) fo_api_Event_0 ty9)<|jg (fun hg10=>qa ot)<|jg (fun hg11=>qz (ow hg11) (ow hg11))<|js (ql ot (fun hk12 => ow hk12))<|js (qb ot)<|nt<|ct<|JE.retA rfl (RvOK.tmp rfl)
theorem topic_may_con (a0) (r) (hm : topic_may a0 = some r) : PC 112 [D R_api_Topic a0] (D RBool r) := by
 refine PI func112 fun w O=>?_
 unfold topic_may at hm
 obtain ⟨x1,hx2,hm⟩ :=ob hm
 refine sr<|js (qq (i:=1) ot)<|js (qb oB)<|nt<|cs<|sr<|js (qc ot (fp pl62))<|js (qd ot fo_api_Topic_0 ty9)<|js (qe oF (name_Topic_con (api_Topic.Name a0) _ hx2) call162 (ze zn))<|js (qr ot)<|js (qa ot)<|jg (fun hg3=>qc ot (fp pl62))<|jg (fun hg4=>qd (ow hg4) fo_api_Topic_1 ty3)<|jg (fun hg5=>qh (ow hg5) oi)<|js (qm ot (fun hk6 => ow hk6))<|js (qa ot)<|jg (fun hg7=>qc ot (fp pl62))<|jg (fun hg8=>qd (ow hg8) fo_api_Topic_2 ty40)<|jg (fun hg9=>qf (ow hg9) u40)<|jg (fun hg10=>qs (ow hg10) oi)<|js (qm ot (fun hk11 => ow hk11))<|js (qa ot)<|jg (fun hg12=>qc ot (fp pl62))<|jg (fun hg13=>qd (ow hg13) fo_api_Topic_1 ty3)<|jg (fun hg14=>qc ot (fp pl62))<|jg (fun hg15=>qd (ow hg15) fo_api_Topic_2 ty40)<|jg (fun hg16=>qf (ow hg16) u40)<|jg (fun hg17=>qE oi (ow hg17))<|jg (fun hg18=>qs (ow hg18) (ow hg18))<|js (qm ot (fun hk19 => ow hk19))<|nt<|cn ot hm (fun hc20 hm=>?_) fun hc20 hm=>?_
 ·cases hm
  exact sr<|js (qb oB)<|nt<|ct<|tr<|JE.retA rfl (RvOK.tmp rfl)
 ·obtain ⟨e34,hl32,hm⟩ :=ob hm
  refine ck<|tn<|cs<|sr<|js (qc ot (fp pl62))<|js (qd ot fo_api_Topic_2 ty40)<|js (qf ot u40)<|js (qa oi)<|nt<|JC.joinS e34 (fun s40=>[]) (fun s40=>[]) (fun s40 he=>?_) (fun _ hK33=>?_)
  ·cases he
   try dsimp only at hm
   cases hm
   exact tn<|sr<|js (qb oB)<|nt<|ct<|JE.retA rfl (RvOK.tmp rfl)
  ·refine cb<|JC.loop _ (fun s39=>[(1, BP 1 0), (30, D (RSlice RStr) (api_Topic.Log a0)), (31, D (RInt .i64) (List.length (api_Topic.Log a0) : Int)), (32, D (RInt .i64) s39)]) (fun s39=>[(1, Box R_api_Topic 62 a0)]) _ ?_ _ hl32 ml
   intro v26 r38 _ hs35 hB36 hE37
   try dsimp only at hs35
   refine sr<|js (qh ot ot)<|nt<|cs<|cn ot hs35 (fun hc41 hs35=>?_) fun hc41 hs35=>?_
   ·obtain ⟨hb42,hs35⟩ :=og hs35
    obtain ⟨x43,hx44,hs35⟩ :=ob hs35
    refine ck<|tn<|cs<|cb<|sr<|js (qj ot ot u40 ty9 hb42)<|js (qi ot ty9)<|js (qb ot)<|nt<|sr<|js (qa ot)<|js (qc ot (fp pl62))<|js (qd ot fo_api_Topic_0 ty9)<|js (qe oF (topic_of_con (nth (api_Topic.Log a0) v26) (api_Topic.Name a0) _ hx44) call163 (ze (ze zn)))<|js (qr ot)<|nt<|cn ot hs35 (fun hc45 hs35=>?_) fun hc45 hs35=>?_
    ·cases hs35
     cases (hE37 _ rfl)
     cases hm
     exact sr<|js (qb oB)<|nt<|ct<|br<|tr<|tr<|br<|tr<|tr<|JE.retA rfl (RvOK.tmp rfl)
    ·cases hs35
     exact ck<|bn<|tn<|cr<|js (qk ot oi)<|js (qa ot)<|jn<|mt (hB36 _ rfl)
   ·cases hs35
    cases (hE37 _ rfl)
    exact cx<|tx<|tx<|bx<|mt (hK33 _ rfl)
theorem topic_Check_con (a0) (r) (hm : topic_Check a0 = some r) : PC 58 [D (RSlice R_api_Topic) a0] (D (RInt .i64) r) := by
 refine PI func58 fun w O=>?_
 unfold topic_Check at hm
 refine sr<|js (qb oi)<|nt<|cs<|sr<|js (qa ot)<|js (qf ot u22)<|js (qs ot oi)<|nt<|cn ot hm (fun hc1 hm=>?_) fun hc1 hm=>?_
 ·cases hm
  exact sr<|js (qb oi)<|nt<|ct<|tr<|JE.retA rfl (RvOK.tmp rfl)
 ·obtain ⟨e47,hl45,hm⟩ :=ob hm
  refine ck<|tn<|cs<|sr<|js (qa ot)<|js (qf ot u22)<|js (qa oi)<|nt<|JC.joinS e47 (fun s53=>[]) (fun s53=>[]) (fun s53 he=>?_) (fun _ hK46=>?_)
  ·cases he
   try dsimp only at hm
   cases hm
   exact tn<|sr<|js (qb oi)<|nt<|ct<|JE.retA rfl (RvOK.tmp rfl)
  ·refine cb<|JC.loop _ (fun s52=>[(0, D (RSlice R_api_Topic) a0), (8, D (RSlice R_api_Topic) a0), (9, D (RInt .i64) (List.length a0 : Int)), (10, D (RInt .i64) s52)]) (fun s52=>[]) _ ?_ _ hl45 ml
   intro v23 r51 _ hs48 hB49 hE50
   try dsimp only at hs48
   refine sr<|js (qh ot ot)<|nt<|cs<|cn ot hs48 (fun hc54 hs48=>?_) fun hc54 hs48=>?_
   ·obtain ⟨hb55,hs48⟩ :=og hs48
    obtain ⟨x56,hx57,hs48⟩ :=ob hs48
    obtain ⟨hb65,hs48⟩ :=og hs48
    refine ck<|tn<|cs<|cb<|sr<|js (qa ot)<|js (qj ot ot u22 ty62 hb55)<|js (qi ot ty62)<|js (qp (i:=3) zero62)<|js (qb ot)<|js (qo ot ot ty62)<|nt<|cs<|cd mixed (db [4] [3] [] (gu (qn ot ty62))<|da [15] (gu (qe oF (topic_may_con (nth a0 v23) _ hx57) call112 (zc (zo ot) zn)))<|da [16] (gu (qr ot))<|da [17] (gu (qa ot))<|da [18,3] (gg fun hg58=>qa ot)<|da [18,19] (gg fun hg59=>qs (ow hg59) oi)<|da [18,20] (gg fun hg60=>qa (ow hg60))<|da [21,0] (gh fun hg61=>qa ot)<|da [21,3] (gh fun hg62=>qa ot)<|da [21,23] (gh fun hg63=>qE (ow hg63) oi)<|da [21,22,24] (gh fun hg64=>qj (ow hg64) (ow hg64) u22 ty62 (hb65 hg64))<|da [21,25] (gh fun hg66=>qx (ow hg66) (fp pl62) fo_api_Topic_0)<|da [21,26] (gh fun hg67=>qi (ow hg67) ty9)<|da [21,4] (gh fun hg68=>qc (off:=0) ot (fp pl62))<|db [21,28] [3] [] (gh fun hg69=>qd (get:=fun d => api_Topic.Name d) (ow hg69) fo_api_Topic_0 ty9)<|da [21,27,29] (gh fun hg70=>qY (ow hg70) (ow hg70))<|da [18,21,30] (gg fun hg71=>ql (ow hg71) (fun hk72 => ow (And.intro hg71 hk72)))<|da [18,31] (gu (qm ot (fun hk73 => ow hk73)))<|an)<|jv [0,8,9,10,32] [] ?_
    refine nt<|cn ot hs48 (fun hc74 hs48=>?_) fun hc74 hs48=>?_
    ·cases hs48
     cases (hE50 _ rfl)
     cases hm
     exact sr<|js (qb oi)<|nt<|ct<|br<|tr<|tr<|br<|tr<|tr<|JE.retA rfl (RvOK.tmp rfl)
    ·cases hs48
     exact ck<|bn<|tn<|cr<|js (qk ot oi)<|js (qa ot)<|jn<|mt (hB49 _ rfl)
   ·cases hs48
    cases (hE50 _ rfl)
    exact cx<|tx<|tx<|bx<|mt (hK46 _ rfl)
theorem dedup_Check_con (a0) (r) (hm : dedup_Check a0 = some r) : PC 59 [D (RSlice R_api_Last) a0] (D (RInt .i64) r) := by
 refine PI func59 fun w O=>?_
 unfold dedup_Check at hm
 refine sr<|js (qb oi)<|nt<|cs<|sr<|js (qa ot)<|js (qf ot u23)<|js (qs ot oi)<|nt<|cn ot hm (fun hc1 hm=>?_) fun hc1 hm=>?_
 ·cases hm
  exact sr<|js (qb oi)<|nt<|ct<|tr<|JE.retA rfl (RvOK.tmp rfl)
 ·obtain ⟨e55,hl53,hm⟩ :=ob hm
  refine ck<|tn<|cs<|sr<|js (qa ot)<|js (qf ot u23)<|js (qa oi)<|nt<|JC.joinS e55 (fun s61=>[]) (fun s61=>[]) (fun s61 he=>?_) (fun _ hK54=>?_)
  ·cases he
   try dsimp only at hm
   cases hm
   exact tn<|sr<|js (qb oi)<|nt<|ct<|JE.retA rfl (RvOK.tmp rfl)
  ·refine cb<|JC.loop _ (fun s60=>[(0, D (RSlice R_api_Last) a0), (8, D (RSlice R_api_Last) a0), (9, D (RInt .i64) (List.length a0 : Int)), (10, D (RInt .i64) s60)]) (fun s60=>[]) _ ?_ _ hl53 ml
   intro v27 r59 _ hs56 hB57 hE58
   try dsimp only at hs56
   refine sr<|js (qh ot ot)<|nt<|cs<|cn ot hs56 (fun hc62 hs56=>?_) fun hc62 hs56=>?_
   ·obtain ⟨hb63,hs56⟩ :=og hs56
    obtain ⟨x64,hx65,hs56⟩ :=ob hs56
    refine ck<|tn<|cs<|cb<|sr<|js (qa ot)<|js (qj ot ot u23 ty102 hb63)<|js (qi ot ty102)<|js (qp (i:=3) zero102)<|js (qb ot)<|js (qo ot ot ty102)<|nt<|cs<|sr<|js (qc ot (fp pl102))<|js (qd ot fo_api_Last_0 ty9)<|js (qe oF (event_Field_con (api_Last.Producer (nth a0 v27)) _ hx65) call113 (ze zn))<|js (qr ot)<|js (qa ot)<|jg (fun hg66=>qc ot (fp pl102))<|jg (fun hg67=>qd (ow hg67) fo_api_Last_1 ty46)<|jg (fun hg68=>qh (ow hg68) oi)<|js (qm ot (fun hk69 => ow hk69))<|js (qa ot)<|jg (fun hg70=>qc ot (fp pl102))<|jg (fun hg71=>qd (ow hg71) fo_api_Last_2 ty3)<|jg (fun hg72=>qh (ow hg72) oi)<|js (qm ot (fun hk73 => ow hk73))<|nt<|cn ot hs56 (fun hc74 hs56=>?_) fun hc74 hs56=>?_
    ·cases hs56
     cases (hE58 _ rfl)
     cases hm
     exact sr<|js (qb oi)<|nt<|ct<|tr<|br<|tr<|tr<|br<|tr<|tr<|JE.retA rfl (RvOK.tmp rfl)
    ·obtain ⟨hb79,hs56⟩ :=og hs56
     refine ck<|tn<|cs<|cd mixed (da [3] (gu (qa ot))<|da [29] (gu (qs ot oi))<|da [30] (gu (qa ot))<|da [31,0] (gg fun hg75=>qa ot)<|da [31,3] (gg fun hg76=>qa ot)<|da [31,33] (gg fun hg77=>qE (ow hg77) oi)<|da [31,32,34] (gg fun hg78=>qj (ow hg78) (ow hg78) u23 ty102 (hb79 hg78))<|da [31,35] (gg fun hg80=>qx (ow hg80) (fp pl102) fo_api_Last_0)<|da [31,36] (gg fun hg81=>qi (ow hg81) ty9)<|da [31,4] (gg fun hg82=>qc (off:=0) ot (fp pl102))<|db [31,38] [3] [] (gg fun hg83=>qd (get:=fun d => api_Last.Producer d) (ow hg83) fo_api_Last_0 ty9)<|da [31,37,39] (gg fun hg84=>qY (ow hg84) (ow hg84))<|da [31,40] (gu (ql ot (fun hk85 => ow hk85)))<|an)<|jv [0,8,9,10,41] [] ?_
     refine nt<|cn ot hs56 (fun hc86 hs56=>?_) fun hc86 hs56=>?_
     ·cases hs56
      cases (hE58 _ rfl)
      cases hm
      exact sr<|js (qb oi)<|nt<|ct<|br<|tr<|tr<|br<|tr<|tr<|JE.retA rfl (RvOK.tmp rfl)
     ·cases hs56
      exact ck<|bn<|tn<|cr<|js (qk ot oi)<|js (qa ot)<|jn<|mt (hB57 _ rfl)
   ·cases hs56
    cases (hE58 _ rfl)
    exact cx<|tx<|tx<|bx<|mt (hK54 _ rfl)
theorem join_May_con (a0) (r) (hm : join_May a0 = some r) : PC 146 [D R_api_Join a0] (D RBool r) := by
 refine PI func146 fun w O=>?_
 unfold join_May at hm
 refine sr<|js (qq (i:=1) ot)<|js (qb oB)<|nt<|cs<|sr<|js (qc ot (fp pl43))<|js (qd ot fo_api_Join_1 ty3)<|js (qh ot oi)<|js (qa ot)<|jg (fun hg1=>qc ot (fp pl43))<|jg (fun hg2=>qd (ow hg2) fo_api_Join_1 ty3)<|jg (fun hg3=>qs (ow hg3) oi)<|js (qm ot (fun hk4 => ow hk4))<|js (qa ot)<|jg (fun hg5=>qc ot (fp pl43))<|jg (fun hg6=>qd (ow hg6) fo_api_Join_3 ty3)<|jg (fun hg7=>qh (ow hg7) oi)<|js (qm ot (fun hk8 => ow hk8))<|js (qa ot)<|jg (fun hg9=>qc ot (fp pl43))<|jg (fun hg10=>qd (ow hg10) fo_api_Join_3 ty3)<|jg (fun hg11=>qs (ow hg11) oi)<|js (qm ot (fun hk12 => ow hk12))<|nt<|cn ot hm (fun hc13 hm=>?_) fun hc13 hm=>?_
 ·cases hm
  exact sr<|js (qb oB)<|nt<|ct<|tr<|JE.retA rfl (RvOK.tmp rfl)
 ·obtain ⟨v15,hj16,hm⟩ :=ob hm
  refine ck<|tn<|cs<|sr<|js (qc ot (fp pl43))<|js (qd ot fo_api_Join_0 ty9)<|nt<|cb<|cs<|sr<|js (qz ot oS)<|js (qb ot)<|nt<|JC.join [(1, BP 1 0), (22, D RStr (api_Join.Kind a0)), (23, D RBool v15)] [(1, Box R_api_Join 43 a0)] ?_ (fun _ hK17=>?_)
  ·refine tn<|cn ot hm (fun hc19 hm=>?_) fun hc19 hm=>?_
   ·cases hm
    exact sr<|js (qc ot (fp pl43))<|js (qd ot fo_api_Join_2 ty3)<|js (qy ot oi)<|js (qb ot)<|nt<|ct<|br<|tr<|JE.retA rfl (RvOK.tmp rfl)
   ·refine sr<|js (qz ot oS)<|js (qb ot)<|nt<|cn ot hm (fun hc20 hm=>?_) fun hc20 hm=>?_
    ·cases hm
     exact sr<|js (qc ot (fp pl43))<|js (qd ot fo_api_Join_2 ty3)<|js (qI ot oi)<|js (qa ot)<|jg (fun hg21=>qc ot (fp pl43))<|jg (fun hg22=>qd (ow hg22) fo_api_Join_2 ty3)<|jg (fun hg23=>qN (ow hg23) oi)<|js (ql ot (fun hk24 => ow hk24))<|js (qb ot)<|nt<|ct<|br<|tr<|JE.retA rfl (RvOK.tmp rfl)
    ·cases hm
     exact ck<|bn<|tn<|sr<|js (qb oB)<|nt<|ct<|JE.retA rfl (RvOK.tmp rfl)
  ·refine cn ot hj16 (fun hc26 hj16=>?_) fun hc26 hj16=>?_
   ·cases hj16
    exact ck<|mt hK17
   ·cases hj16
    exact cr<|js (qz ot oS)<|js (qb ot)<|jn<|mt hK17
theorem name_Glob_1_con (a0) (r) (hm : name_Glob_1 a0 = some r) : PC 189 [D RStr a0] (D RBool r) := by
 refine PI func189 fun w O=>?_
 unfold name_Glob_1 at hm
 obtain ⟨x6,hx7,hm⟩ :=ob hm
 cases hm
 exact sr<|js (qb oB)<|nt<|sr<|js (qa ot)<|js (qz ot oS)<|js (qa ot)<|jg (fun hg1=>qa ot)<|jg (fun hg2=>qz (ow hg2) oS)<|js (qm ot (fun hk3 => ow hk3))<|js (qa ot)<|jg (fun hg4=>qa ot)<|jg (fun hg5=>qe oF (name_part_con a0 _ (of_pos hg5 hx7)) call190 (zc (zo (ow hg5)) zn))<|js (qm ot (fun hk8 => ow hk8))<|js (qb ot)<|nt<|ct<|JE.retA rfl (RvOK.tmp rfl)
theorem name_all__name_Glob_1_con (a0) (r) (hm : name_all__name_Glob_1 a0 = some r) : PC 188 [D RStr a0,FV 189 []] (D RBool r) := by
 refine PI func188 fun w O=>?_
 unfold name_all__name_Glob_1 at hm
 refine sr<|js (qb oB)<|nt<|cs<|sr<|js (qa ot)<|js (qD ot u9)<|js (qs ot oi)<|nt<|cn ot hm (fun hc1 hm=>?_) fun hc1 hm=>?_
 ·cases hm
  exact sr<|js (qb oB)<|nt<|ct<|tr<|JE.retA rfl (RvOK.tmp rfl)
 ·obtain ⟨e20,hl18,hm⟩ :=ob hm
  refine ck<|tn<|cs<|sr<|js (qa oi)<|nt<|JC.joinS e20 (fun s26=>[]) (fun s26=>[]) (fun s26 he=>?_) (fun _ hK19=>?_)
  ·cases he
   try dsimp only at hm
   cases hm
   exact tn<|sr<|js (qb oB)<|nt<|ct<|JE.retA rfl (RvOK.tmp rfl)
  ·refine cb<|JC.loop _ (fun s25=>[(0, D RStr s25.1), (1, FV 189 []), (11, D (RInt .i64) s25.2)]) (fun s25=>[]) _ ?_ _ hl18 ml
   intro s25 r24 _ hs21 hB22 hE23
   obtain ⟨v9, v10⟩ := s25
   try dsimp only at hs21
   refine sr<|js (qh ot oi)<|nt<|cs<|cn ot hs21 (fun hc27 hs21=>?_) fun hc27 hs21=>?_
   ·obtain ⟨x28,hx29,hs21⟩ :=ob hs21
    obtain ⟨x30,hx31,hs21⟩ :=ob hs21
    refine ck<|tn<|cs<|cb<|sr<|js (qa ot)<|js (qe oF (strings_Cut_con v9 ([46] : Str) _ hx29) call205 (ze (zc (zo oS) zn)))<|js (qa ot)<|js (qu ot)<|js (qu ot)<|js (qu ot)<|js (qb ot)<|js (qb ot)<|js (qb ot)<|nt<|cs<|sr<|js (qa ot)<|js (qa ot)<|js (qL (F:=[]) ot (name_Glob_1_con x28.1 _ hx31) call189 (ze zn) FzE.nil WI.bool)<|js (qr ot)<|nt<|cn ot hs21 (fun hc32 hs21=>?_) fun hc32 hs21=>?_
    ·cases hs21
     cases (hE23 _ rfl)
     cases hm
     exact sr<|js (qb oB)<|nt<|ct<|tr<|br<|tr<|tr<|br<|tr<|tr<|JE.retA rfl (RvOK.tmp rfl)
    ·refine ck<|tn<|cs<|sr<|js (qa ot)<|js (qr ot)<|nt<|cn ot hs21 (fun hc33 hs21=>?_) fun hc33 hs21=>?_
     ·cases hs21
      cases (hE23 _ rfl)
      cases hm
      exact sr<|js (qb oB)<|nt<|ct<|tr<|br<|tr<|tr<|br<|tr<|tr<|JE.retA rfl (RvOK.tmp rfl)
     ·cases hs21
      exact ck<|tn<|cr<|js (qa ot)<|js (qb ot)<|jn<|bn<|tn<|cr<|js (qk ot oi)<|js (qa ot)<|jn<|mt (hB22 _ rfl)
   ·cases hs21
    cases (hE23 _ rfl)
    exact cx<|tx<|tx<|bx<|mt (hK19 _ rfl)
theorem name_Glob_con (a0) (r) (hm : name_Glob a0 = some r) : PC 149 [D RStr a0] (D RBool r) := by
 refine PI func149 fun w O=>?_
 unfold name_Glob at hm
 obtain ⟨x1,hx2,hm⟩ :=ob hm
 cases hm
 exact sr<|js (qb oB)<|nt<|sr<|js (qa ot)<|js (qe oF (name_all__name_Glob_1_con a0 _ hx2) call188 (ze (zc (OpdF.fv oF FzE.nil) zn)))<|js (qb ot)<|nt<|ct<|JE.retA rfl (RvOK.tmp rfl)
theorem offs_May_1_con (a0) (r) (hm : offs_May_1 a0 = some r) : PC 148 [D RStr a0] (D RBool r) := by
 refine PI func148 fun w O=>?_
 unfold offs_May_1 at hm
 obtain ⟨x1,hx2,hm⟩ :=ob hm
 cases hm
 exact sr<|js (qb oB)<|nt<|sr<|js (qa ot)<|js (qe oF (name_Glob_con a0 _ hx2) call149 (ze zn))<|js (qb ot)<|nt<|ct<|JE.retA rfl (RvOK.tmp rfl)
theorem offs_all_string__offs_May_1_con (a0) (r) (hm : offs_all_string__offs_May_1 a0 = some r) : PC 147 [D (RSlice RStr) a0,FV 148 []] (D RBool r) := by
 refine PI func147 fun w O=>?_
 unfold offs_all_string__offs_May_1 at hm
 obtain ⟨e14,hl12,hm⟩ :=ob hm
 refine sr<|js (qb oB)<|nt<|cs<|sr<|js (qa ot)<|js (qf ot u40)<|js (qa oi)<|nt<|JC.joinS e14 (fun s20=>[]) (fun s20=>[]) (fun s20 he=>?_) (fun _ hK13=>?_)
 ·cases he
  try dsimp only at hm
  cases hm
  exact tn<|sr<|js (qb oB)<|nt<|ct<|JE.retA rfl (RvOK.tmp rfl)
 ·refine cb<|JC.loop _ (fun s19=>[(1, FV 148 []), (7, D (RSlice RStr) a0), (8, D (RInt .i64) (List.length a0 : Int)), (9, D (RInt .i64) s19)]) (fun s19=>[]) _ ?_ _ hl12 ml
  intro v6 r18 _ hs15 hB16 hE17
  try dsimp only at hs15
  refine sr<|js (qh ot ot)<|nt<|cs<|cn ot hs15 (fun hc21 hs15=>?_) fun hc21 hs15=>?_
  ·obtain ⟨hb22,hs15⟩ :=og hs15
   obtain ⟨x23,hx24,hs15⟩ :=ob hs15
   refine ck<|tn<|cs<|cb<|sr<|js (qj ot ot u40 ty9 hb22)<|js (qi ot ty9)<|js (qb ot)<|nt<|sr<|js (qa ot)<|js (qa ot)<|js (qL (F:=[]) ot (offs_May_1_con (nth a0 v6) _ hx24) call148 (ze zn) FzE.nil WI.bool)<|js (qr ot)<|nt<|cn ot hs15 (fun hc25 hs15=>?_) fun hc25 hs15=>?_
   ·cases hs15
    cases (hE17 _ rfl)
    cases hm
    exact sr<|js (qb oB)<|nt<|ct<|br<|tr<|tr<|br<|tr<|tr<|JE.retA rfl (RvOK.tmp rfl)
   ·cases hs15
    exact ck<|bn<|tn<|cr<|js (qk ot oi)<|js (qa ot)<|jn<|mt (hB16 _ rfl)
  ·cases hs15
   cases (hE17 _ rfl)
   exact cx<|tx<|tx<|bx<|mt (hK13 _ rfl)
theorem pred_walk_deep_1_o0_3_con (o0) (r) (hm : pred_walk_deep_1_o0_3 o0 = r) : SW 207 [(0,Box (RInt .i64) 3 o0)] [BP 0 0] [(0,Box (RInt .i64) 3 r)] (TUP []) := by
 refine SWp.intro (n := 3) (Γ0 := [(0, BP 0 0)]) func207 rfl (fun gs => [(0, BoxAt (IsV (gs 0)) (RInt .i64) 3 o0)]) rfl rfl rfl (fun gs => (.box .nil)) (fun w O gs own hk => ?_)
 unfold pred_walk_deep_1_o0_3 at hm
 cases hm
 exact cr<|js (qn ot ty3)<|js (qk ot oi)<|js (qo ot ot ty3)<|jn<|JE.end0<|JE.retS0 hk (.box rfl .nil) (.box rfl .nil) rfl
theorem pred_alone_con (a0) (r) (hm : pred_alone a0 = some r) : PC 208 [D R_api_Pred a0] (D RBool r) := by
 refine PI func208 fun w O=>?_
 unfold pred_alone at hm
 obtain ⟨e27,hj25,hm⟩ :=ob hm
 refine sr<|js (qq (i:=1) ot)<|js (qb oB)<|nt<|sr<|js (qc ot (fp pl120))<|js (qd ot fo_api_Pred_1 ty9)<|js (qz ot oS)<|js (qb ot)<|nt<|sr<|js (qb oi)<|nt<|sr<|js (qc ot (fp pl120))<|js (qd ot fo_api_Pred_2 ty118)<|js (qF pl118 zero118 Fill.nil)<|js (vp ot ot eq118)<|js (qb ot)<|nt<|cs<|sr<|js (qc ot (fp pl120))<|js (qd ot fo_api_Pred_0 ty9)<|nt<|JC.joinS e27 (fun s36=>[(1, BP 1 0), (3, D RBool s36.1), (4, D (RInt .i64) s36.2.1), (5, D RBool s36.2.2)]) (fun s36=>[(1, Box R_api_Pred 120 a0)]) (fun s36 he=>?_) (fun _ hK26=>?_)
 ·cases he
  obtain ⟨v22, v23, v24⟩ := s36
  try dsimp only at hm
  cases hm
  exact tn<|sr<|js (qa ot)<|js (qa ot)<|jg (fun hg28=>qa ot)<|js (ql ot (fun hk29 => ow hk29))<|js (qa ot)<|jg (fun hg30=>qc ot (fp pl120))<|jg (fun hg31=>qd (ow hg31) fo_api_Pred_3 ty41)<|jg (fun hg32=>qf (ow hg32) u41)<|jg (fun hg33=>qa ot)<|jg (fun hg34=>qy (ow hg34) (ow hg34))<|js (ql ot (fun hk35 => ow hk35))<|js (qb ot)<|nt<|ct<|JE.retA rfl (RvOK.tmp rfl)
 ·refine cb<|sr<|js (qz ot oS)<|js (qb ot)<|nt<|cn ot hj25 (fun hc37 hj25=>?_) fun hc37 hj25=>?_
  ·cases hj25
   exact ck<|bn<|mt (hK26 _ rfl)
  ·refine sr<|js (qz ot oS)<|js (qb ot)<|nt<|cn ot hj25 (fun hc38 hj25=>?_) fun hc38 hj25=>?_
   ·obtain ⟨x39,hx40,hj25⟩ :=ob hj25
    cases hj25
    exact cr<|js (qc ot (fp pl120))<|js (qd ot fo_api_Pred_1 ty9)<|js (qe oF (name_Glob_con (PT.S a0) _ hx40) call149 (ze zn))<|js (qb ot)<|jn<|bn<|mt (hK26 _ rfl)
   ·refine sr<|js (qz ot oS)<|js (qb ot)<|nt<|cn ot hj25 (fun hc41 hj25=>?_) fun hc41 hj25=>?_
    ·obtain ⟨x42,hx43,hj25⟩ :=ob hj25
     cases hj25
     exact cr<|js (qc ot (fp pl120))<|js (qd ot fo_api_Pred_1 ty9)<|js (qe oF (event_Field_con (PT.S a0) _ hx43) call113 (ze zn))<|js (qb ot)<|jn<|bn<|mt (hK26 _ rfl)
    ·obtain ⟨v45,hj46,hj25⟩ :=ob hj25
     refine cs<|sr<|js (qz ot oS)<|js (qb ot)<|nt<|JC.join [(1, BP 1 0), (3, D RBool ((PT.S a0) == ([] : Str))), (4, D (RInt .i64) (0 : Int)), (5, D RBool (decide ((PT.V a0) = z_api_Value))), (14, D RStr (PT.Op a0)), (27, D RBool v45)] [(1, Box R_api_Pred 120 a0)] ?_ (fun _ hK47=>?_)
     ·refine tn<|cn ot hj25 (fun hc49 hj25=>?_) fun hc49 hj25=>?_
      ·obtain ⟨x50,hx51,hj25⟩ :=ob hj25
       refine cd mixed (da [1] (gu (qc (off:=1) ot (fp pl120)))<|db [30] [1] [] (gu (qd (get:=fun d => PT.S d) ot fo_api_Pred_1 ty9))<|da [31] (gu (qe oF (event_Field_con (PT.S a0) _ hx51) call113 (zc (zo ot) zn)))<|da [1] (gu (qc (off:=2) ot (fp pl120)))<|db [33] [1] [] (gu (qd (get:=fun d => PT.V d) ot fo_api_Pred_2 ty118))<|da [34] (gu (qe oF (val_May_con (PT.V a0) _ rfl) call203 (zc (zo ot) zn)))<|da [32] (gu (qb ot))<|an)<|jv [1,3,4,35] [1] ?_
       cases hj25
       exact js (qb ot)<|jn<|bn<|mt (hK26 _ rfl)
      ·refine sr<|js (qz ot oS)<|js (qb ot)<|nt<|cn ot hj25 (fun hc52 hj25=>?_) fun hc52 hj25=>?_
       ·cases hj25
        exact cr<|js (qb oi)<|jn<|bn<|mt (hK26 _ rfl)
       ·refine cs<|sr<|js (qz ot oS)<|js (qb ot)<|nt<|cn ot hj25 (fun hc53 hj25=>?_) fun hc53 hj25=>?_
        ·refine ck<|tn<|cn ot hj25 (fun hc54 hj25=>?_) fun hc54 hj25=>?_
         ·cases hj25
          exact cr<|js (qb oi)<|jn<|bn<|mt (hK26 _ rfl)
         ·cases hj25
          cases hm
          exact sr<|js (qb oB)<|nt<|ct<|br<|tr<|tr<|JE.retA rfl (RvOK.tmp rfl)
        ·refine cr<|js (qz ot oS)<|js (qb ot)<|nt<|cn ot hj25 (fun hc55 hj25=>?_) fun hc55 hj25=>?_
         ·cases hj25
          exact cr<|js (qb oi)<|jn<|bn<|mt (hK26 _ rfl)
         ·cases hj25
          cases hm
          exact sr<|js (qb oB)<|nt<|ct<|br<|tr<|tr<|JE.retA rfl (RvOK.tmp rfl)
     ·refine cn ot hj46 (fun hc57 hj46=>?_) fun hc57 hj46=>?_
      ·cases hj46
       exact ck<|mt hK47
      ·cases hj46
       exact cr<|js (qz ot oS)<|js (qb ot)<|jn<|mt hK47
theorem pred_walk_deep_o0_con : ∀ (n : Nat) (a1 : api_Pred) (a2 : Int) (o0 : pred_walk) (r : (Int × Bool × pred_walk)) (hm : pred_walk_deep_o0 n a1 a2 o0 = some r), SCon Base prog 191 [(0, Box R_pred_walk 259 o0)] [BP 0 0, D R_api_Pred a1, D (RInt .i64) a2] [(0, Box R_pred_walk 259 r.2.2)] (TUP [D (RInt .i64) r.1, D RBool r.2.1]) := by
 intro n
 induction n with
 | zero => intro a1 a2 o0 r hm; rw [pred_walk_deep_o0.eq_1] at hm; cases hm
 | succ n ih =>
  intro a1 a2 o0 r hm
  rw [pred_walk_deep_o0.eq_2] at hm
  refine SCon.introD (n := 56) (Γ0 := [(0, BP 0 0), (1, D R_api_Pred a1), (2, D (RInt .i64) a2)]) func191 rfl (fun gs => [(0, BoxAt (IsV (gs 0)) R_pred_walk 259 o0)]) rfl rfl rfl (fun gs => (.box .nil)) (fun w O gs own hk => ?_)
  refine sr<|js (qq (i:=2) ot)<|js (qp (i:=3) zero3)<|js (qb oB)<|nt<|sr<|js (qR (Caps.cons ot (Caps.nil (xs := [])))) ?_
  refine JL.deferS ot rfl (fun dv => ?_)
  obtain ⟨x9,hx10,hm⟩ :=ob hm
  refine nt<|sr<|js (qa ot)<|js (qt ot)<|js (qc ot (fp pl259))<|js (qd ot fo_pred_walk_0 ty3)<|js (qk ot oi)<|js (qt ot)<|js (qc ot (fp pl259))<|js (qv ot ot fs_pred_walk_0 ty3)<|nt<|cs<|sr<|js (qa ot)<|js (qh ot oi)<|js (qa ot)<|jg (fun hg1=>qa ot)<|jg (fun hg2=>qt (ow hg2))<|jg (fun hg3=>qc (ow hg3) (fp pl259))<|jg (fun hg4=>qd (ow hg4) fo_pred_walk_0 ty3)<|jg (fun hg5=>qs (ow hg5) oi)<|js (qm ot (fun hk6 => ow hk6))<|js (qa ot)<|jg (fun hg7=>qn ot ty120)<|jg (fun hg8=>qe oF (pred_alone_con a1 _ (of_pos hg8 hx10)) call208 (zc (zo (ow hg8)) zn))<|jg (fun hg11=>qr (ow hg11))<|js (qm ot (fun hk12 => ow hk12))<|nt<|cn ot hm (fun hc13 hm=>?_) fun hc13 hm=>?_
  ·cases hm
   exact sr<|js (qo ot oi ty3)<|js (qb oB)<|nt<|ct<|tr<|JE.retSD (i := 3) hk rfl (pred_walk_deep_1_o0_3_con (0 : Int) _ rfl) call207 (.box rfl .nil) (.box rfl .nil) rfl (RvS.cell rfl rfl ty3) (RvS.tmp rfl)
  ·obtain ⟨e31,hl29,hm⟩ :=ob hm
   refine ck<|tn<|cs<|sr<|js (qc ot (fp pl120))<|js (qd ot fo_api_Pred_3 ty41)<|js (qf ot u41)<|js (qa oi)<|nt<|JC.joinS e31 (fun s37=>[(6, BP 3 0)]) (fun s37=>[(0, BoxAt (IsV (gs 0)) R_pred_walk 259 s37.1), (3, BoxAt (IsDf 207 dv) (RInt .i64) 3 s37.2)]) (fun s37 he=>?_) (fun _ hK30=>?_)
   ·cases he
    obtain ⟨v27, v28⟩ := s37
    try dsimp only at hm
    cases hm
    exact tn<|sr<|js (qn ot ty3)<|js (qo ot ot ty3)<|js (qb oB)<|nt<|ct<|JE.retSD (i := 3) hk rfl (pred_walk_deep_1_o0_3_con v28 _ rfl) call207 (.box rfl .nil) (.box rfl .nil) rfl (RvS.cell rfl rfl ty3) (RvS.tmp rfl)
   ·refine cb<|JC.loop _ (fun s36=>[(0, BP 0 0), (2, D (RInt .i64) a2), (6, BP 3 0), (35, D (RSlice R_api_Pred) (PT.L a1)), (36, D (RInt .i64) (List.length (PT.L a1) : Int)), (37, D (RInt .i64) s36.1)]) (fun s36=>[(0, BoxAt (IsV (gs 0)) R_pred_walk 259 s36.2.1), (3, BoxAt (IsDf 207 dv) (RInt .i64) 3 s36.2.2)]) _ ?_ _ hl29 ml
    intro s36 r35 _ hs32 hB33 hE34
    obtain ⟨v19, v20, v21⟩ := s36
    try dsimp only at hs32
    refine sr<|js (qh ot ot)<|nt<|cs<|cn ot hs32 (fun hc38 hs32=>?_) fun hc38 hs32=>?_
    ·obtain ⟨hb39,hs32⟩ :=og hs32
     obtain ⟨x40,hx41,hs32⟩ :=ob hs32
     refine ck<|tn<|cs<|cb<|sr<|js (qj ot ot u41 ty120 hb39)<|js (qi ot ty120)<|js (qp (i:=6) zero120)<|js (qo ot ot ty120)<|nt<|sr<|js (qa ot)<|js (qn ot ty120)<|js (qa ot)<|js (qE ot oi)<|js (qg (σ:=[(0, 0)]) oF (ih (nth (PT.L a1) v19) (IntKind.i64.wrap (a2 - (1 : Int))) v20 _ hx41) call191 (.cons ot (Ren.bp rfl) (.cons ot Ren.dat (.cons ot Ren.dat .nil))) .nil (.box rfl .nil) (RenB.tup (.cons (.cons .nil))))<|js (qa ot)<|js (qu ot)<|js (qu ot)<|js (qb ot)<|js (qb ot)<|nt<|cs<|sr<|js (qa ot)<|js (qr ot)<|nt<|cn ot hs32 (fun hc42 hs32=>?_) fun hc42 hs32=>?_
     ·cases hs32
      cases (hE34 _ rfl)
      cases hm
      exact sr<|js (qo ot oi ty3)<|js (qb oB)<|nt<|ct<|tr<|br<|tr<|tr<|br<|tr<|tr<|JE.retSD (i := 3) hk rfl (pred_walk_deep_1_o0_3_con (0 : Int) _ rfl) call207 (.box rfl .nil) (.box rfl .nil) rfl (RvS.cell rfl rfl ty3) (RvS.tmp rfl)
     ·cases hs32
      exact ck<|tn<|cr<|js (qn ot ty3)<|js (qa ot)<|js (vI ot ot)<|js (qo ot ot ty3)<|jn<|bn<|tn<|cr<|js (qk ot oi)<|js (qa ot)<|jn<|mt (hB33 _ rfl)
    ·cases hs32
     cases (hE34 _ rfl)
     exact cx<|tx<|tx<|bx<|mt (hK30 _ rfl)
theorem pred_May_con (a0) (r) (hm : pred_May a0 = some r) : PC 152 [D R_api_Pred a0] (D RBool r) := by
 refine PI func152 fun w O=>?_
 unfold pred_May at hm
 obtain ⟨x1,hx2,hm⟩ :=ob hm
 cases hm
 exact sr<|js (qq (i:=1) ot)<|js (qb oB)<|nt<|sr<|js (qp (i:=2) zero259)<|nt<|sr<|js (qn ot ty120)<|js (qg (σ:=[(0, 2)]) oF (pred_walk_deep_o0_con FUEL a0 (8 : Int) z_pred_walk _ hx2) call191 (.cons ot (Ren.bp rfl) (.cons ot Ren.dat (.cons oi Ren.dat .nil))) .nil (.box rfl .nil) (RenB.tup (.cons (.cons .nil))))<|js (qa ot)<|js (qu ot)<|js (qu ot)<|js (qb ot)<|js (qb ot)<|nt<|sr<|js (qa ot)<|js (qa ot)<|jg (fun hg3=>qa ot)<|jg (fun hg4=>qN (ow hg4) oi)<|js (ql ot (fun hk5 => ow hk5))<|js (qb ot)<|nt<|ct<|JE.retA rfl (RvOK.tmp rfl)
theorem offs_May_2_con (a0) (r) (hm : offs_May_2 a0 = some r) : PC 151 [D R_api_Pred a0] (D RBool r) := by
 refine PI func151 fun w O=>?_
 unfold offs_May_2 at hm
 obtain ⟨x1,hx2,hm⟩ :=ob hm
 cases hm
 exact sr<|js (qq (i:=1) ot)<|js (qb oB)<|nt<|sr<|js (qn ot ty120)<|js (qe oF (pred_May_con a0 _ hx2) call152 (ze zn))<|js (qb ot)<|nt<|ct<|JE.retA rfl (RvOK.tmp rfl)
theorem offs_all_api_Pred__offs_May_2_con (a0) (r) (hm : offs_all_api_Pred__offs_May_2 a0 = some r) : PC 150 [D (RSlice R_api_Pred) a0,FV 151 []] (D RBool r) := by
 refine PI func150 fun w O=>?_
 unfold offs_all_api_Pred__offs_May_2 at hm
 obtain ⟨e14,hl12,hm⟩ :=ob hm
 refine sr<|js (qb oB)<|nt<|cs<|sr<|js (qa ot)<|js (qf ot u41)<|js (qa oi)<|nt<|JC.joinS e14 (fun s20=>[]) (fun s20=>[]) (fun s20 he=>?_) (fun _ hK13=>?_)
 ·cases he
  try dsimp only at hm
  cases hm
  exact tn<|sr<|js (qb oB)<|nt<|ct<|JE.retA rfl (RvOK.tmp rfl)
 ·refine cb<|JC.loop _ (fun s19=>[(1, FV 151 []), (7, D (RSlice R_api_Pred) a0), (8, D (RInt .i64) (List.length a0 : Int)), (9, D (RInt .i64) s19)]) (fun s19=>[]) _ ?_ _ hl12 ml
  intro v6 r18 _ hs15 hB16 hE17
  try dsimp only at hs15
  refine sr<|js (qh ot ot)<|nt<|cs<|cn ot hs15 (fun hc21 hs15=>?_) fun hc21 hs15=>?_
  ·obtain ⟨hb22,hs15⟩ :=og hs15
   obtain ⟨x23,hx24,hs15⟩ :=ob hs15
   refine ck<|tn<|cs<|cb<|sr<|js (qj ot ot u41 ty120 hb22)<|js (qi ot ty120)<|js (qp (i:=3) zero120)<|js (qo ot ot ty120)<|nt<|sr<|js (qa ot)<|js (qn ot ty120)<|js (qL (F:=[]) ot (offs_May_2_con (nth a0 v6) _ hx24) call151 (ze zn) FzE.nil WI.bool)<|js (qr ot)<|nt<|cn ot hs15 (fun hc25 hs15=>?_) fun hc25 hs15=>?_
   ·cases hs15
    cases (hE17 _ rfl)
    cases hm
    exact sr<|js (qb oB)<|nt<|ct<|br<|tr<|tr<|br<|tr<|tr<|JE.retA rfl (RvOK.tmp rfl)
   ·cases hs15
    exact ck<|bn<|tn<|cr<|js (qk ot oi)<|js (qa ot)<|jn<|mt (hB16 _ rfl)
  ·cases hs15
   cases (hE17 _ rfl)
   exact cx<|tx<|tx<|bx<|mt (hK13 _ rfl)
theorem offs_May_con (a0) (r) (hm : offs_May a0 = some r) : PC 101 [D R_api_Def a0] (D RBool r) := by
 refine PI func101 fun w O=>?_
 unfold offs_May at hm
 obtain ⟨x1,hx2,hm⟩ :=ob hm
 refine sr<|js (qq (i:=1) ot)<|js (qb oB)<|nt<|cs<|sr<|js (qc ot (fp pl45))<|js (qd ot fo_api_Def_0 ty9)<|js (qe oF (event_Field_con (api_Def.Name a0) _ hx2) call113 (ze zn))<|js (qr ot)<|js (qa ot)<|jg (fun hg3=>qc ot (fp pl45))<|jg (fun hg4=>qd (ow hg4) fo_api_Def_1 ty40)<|jg (fun hg5=>qf (ow hg5) u40)<|jg (fun hg6=>qh (ow hg6) oi)<|js (qm ot (fun hk7 => ow hk7))<|js (qa ot)<|jg (fun hg8=>qc ot (fp pl45))<|jg (fun hg9=>qd (ow hg9) fo_api_Def_1 ty40)<|jg (fun hg10=>qf (ow hg10) u40)<|jg (fun hg11=>qs (ow hg11) oi)<|js (qm ot (fun hk12 => ow hk12))<|nt<|cn ot hm (fun hc13 hm=>?_) fun hc13 hm=>?_
 ·cases hm
  exact sr<|js (qb oB)<|nt<|ct<|tr<|JE.retA rfl (RvOK.tmp rfl)
 ·obtain ⟨x14,hx15,hm⟩ :=ob hm
  obtain ⟨x31,hx32,hm⟩ :=ob hm
  refine ck<|tn<|cs<|sr<|js (qc ot (fp pl45))<|js (qd ot fo_api_Def_4 ty43)<|js (qe oF (join_May_con (api_Def.J a0) _ hx15) call146 (ze zn))<|js (qr ot)<|js (qa ot)<|jg (fun hg16=>qc ot (fp pl45))<|jg (fun hg17=>qd (ow hg17) fo_api_Def_2 ty41)<|jg (fun hg18=>qf (ow hg18) u41)<|jg (fun hg19=>qc ot (fp pl45))<|jg (fun hg20=>qc (ow hg20) (fp pl43))<|jg (fun hg21=>qd (ow hg21) (FieldOf.comp fo_api_Def_4 fo_api_Join_1) ty3)<|jg (fun hg22=>qw (ow hg22) (ow hg22))<|js (qm ot (fun hk23 => ow hk23))<|js (qa ot)<|jg (fun hg24=>qc ot (fp pl45))<|jg (fun hg25=>qd (ow hg25) fo_api_Def_3 ty9)<|jg (fun hg26=>qQ (ow hg26) oS)<|jg (fun hg27=>qa (ow hg27))<|jh (fun hg28=>qc ot (fp pl45))<|jh (fun hg29=>qd (ow hg29) fo_api_Def_3 ty9)<|jh (fun hg30=>qe oF (event_Field_con (api_Def.Key a0) _ (of_pos hg30 hx32)) call113 (zc (zo (ow hg30)) zn))<|jh (fun hg33=>qr (ow hg33))<|jg (fun hg34=>ql (ow hg34) (fun hk35 => ow (And.intro hg34 hk35)))<|js (qm ot (fun hk36 => ow hk36))<|nt<|cn ot hm (fun hc37 hm=>?_) fun hc37 hm=>?_
  ·cases hm
   exact sr<|js (qb oB)<|nt<|ct<|tr<|JE.retA rfl (RvOK.tmp rfl)
  ·obtain ⟨x38,hx39,hm⟩ :=ob hm
   obtain ⟨x43,hx44,hm⟩ :=ob hm
   cases hm
   exact ck<|tn<|sr<|js (qc ot (fp pl45))<|js (qd ot fo_api_Def_1 ty40)<|js (qe oF (offs_all_string__offs_May_1_con (api_Def.Globs a0) _ hx39) call147 (ze (zc (OpdF.fv oF FzE.nil) zn)))<|js (qa ot)<|jg (fun hg40=>qc ot (fp pl45))<|jg (fun hg41=>qd (ow hg41) fo_api_Def_2 ty41)<|jg (fun hg42=>qe oF (offs_all_api_Pred__offs_May_2_con (api_Def.Where a0) _ (of_pos hg42 hx44)) call150 (zc (zo (ow hg42)) (zc (OpdF.fv oF FzE.nil) zn)))<|js (ql ot (fun hk45 => ow hk45))<|js (qb ot)<|nt<|ct<|JE.retA rfl (RvOK.tmp rfl)
theorem offs_may_con (a0) (r) (hm : offs_may a0 = some r) : PC 215 [D R_api_Off a0] (D RBool r) := by
 refine PI func215 fun w O=>?_
 unfold offs_may at hm
 obtain ⟨x1,hx2,hm⟩ :=ob hm
 cases hm
 exact sr<|js (qq (i:=1) ot)<|js (qb oB)<|nt<|sr<|js (qc ot (fp pl123))<|js (qd ot fo_api_Off_0 ty9)<|js (qe oF (name_Topic_con (api_Off.Topic a0) _ hx2) call162 (ze zn))<|js (qa ot)<|jg (fun hg3=>qc ot (fp pl123))<|jg (fun hg4=>qd (ow hg4) fo_api_Off_1 ty3)<|jg (fun hg5=>qI (ow hg5) oi)<|js (ql ot (fun hk6 => ow hk6))<|js (qb ot)<|nt<|ct<|JE.retA rfl (RvOK.tmp rfl)
theorem offs_Check_1_con (a0) (r) (hm : offs_Check_1 a0 = some r) : PC 214 [D R_api_Off a0] (D RBool r) := by
 refine PI func214 fun w O=>?_
 unfold offs_Check_1 at hm
 obtain ⟨x1,hx2,hm⟩ :=ob hm
 cases hm
 exact sr<|js (qq (i:=1) ot)<|js (qb oB)<|nt<|sr<|js (qn ot ty123)<|js (qe oF (offs_may_con a0 _ hx2) call215 (ze zn))<|js (qb ot)<|nt<|ct<|JE.retA rfl (RvOK.tmp rfl)
theorem offs_all_api_Off__offs_Check_1_con (a0) (r) (hm : offs_all_api_Off__offs_Check_1 a0 = some r) : PC 213 [D (RSlice R_api_Off) a0,FV 214 []] (D RBool r) := by
 refine PI func213 fun w O=>?_
 unfold offs_all_api_Off__offs_Check_1 at hm
 obtain ⟨e14,hl12,hm⟩ :=ob hm
 refine sr<|js (qb oB)<|nt<|cs<|sr<|js (qa ot)<|js (qf ot u63)<|js (qa oi)<|nt<|JC.joinS e14 (fun s20=>[]) (fun s20=>[]) (fun s20 he=>?_) (fun _ hK13=>?_)
 ·cases he
  try dsimp only at hm
  cases hm
  exact tn<|sr<|js (qb oB)<|nt<|ct<|JE.retA rfl (RvOK.tmp rfl)
 ·refine cb<|JC.loop _ (fun s19=>[(1, FV 214 []), (7, D (RSlice R_api_Off) a0), (8, D (RInt .i64) (List.length a0 : Int)), (9, D (RInt .i64) s19)]) (fun s19=>[]) _ ?_ _ hl12 ml
  intro v6 r18 _ hs15 hB16 hE17
  try dsimp only at hs15
  refine sr<|js (qh ot ot)<|nt<|cs<|cn ot hs15 (fun hc21 hs15=>?_) fun hc21 hs15=>?_
  ·obtain ⟨hb22,hs15⟩ :=og hs15
   obtain ⟨x23,hx24,hs15⟩ :=ob hs15
   refine ck<|tn<|cs<|cb<|sr<|js (qj ot ot u63 ty123 hb22)<|js (qi ot ty123)<|js (qp (i:=3) zero123)<|js (qo ot ot ty123)<|nt<|sr<|js (qa ot)<|js (qn ot ty123)<|js (qL (F:=[]) ot (offs_Check_1_con (nth a0 v6) _ hx24) call214 (ze zn) FzE.nil WI.bool)<|js (qr ot)<|nt<|cn ot hs15 (fun hc25 hs15=>?_) fun hc25 hs15=>?_
   ·cases hs15
    cases (hE17 _ rfl)
    cases hm
    exact sr<|js (qb oB)<|nt<|ct<|br<|tr<|tr<|br<|tr<|tr<|JE.retA rfl (RvOK.tmp rfl)
   ·cases hs15
    exact ck<|bn<|tn<|cr<|js (qk ot oi)<|js (qa ot)<|jn<|mt (hB16 _ rfl)
  ·cases hs15
   cases (hE17 _ rfl)
   exact cx<|tx<|tx<|bx<|mt (hK13 _ rfl)
theorem offs_Check_con (a0) (r) (hm : offs_Check a0 = some r) : PC 196 [D (RSlice R_api_Off) a0] (D (RInt .i64) r) := by
 refine PI func196 fun w O=>?_
 unfold offs_Check at hm
 obtain ⟨x3,hx4,hm⟩ :=ob hm
 refine sr<|js (qb oi)<|nt<|cs<|sr<|js (qa ot)<|js (qf ot u63)<|js (qs ot oi)<|js (qa ot)<|jg (fun hg1=>qa ot)<|jg (fun hg2=>qe oF (offs_all_api_Off__offs_Check_1_con a0 _ (of_pos hg2 hx4)) call213 (zc (zo (ow hg2)) (zc (OpdF.fv oF FzE.nil) zn)))<|jg (fun hg5=>qr (ow hg5))<|js (qm ot (fun hk6 => ow hk6))<|nt<|cn ot hm (fun hc7 hm=>?_) fun hc7 hm=>?_
 ·cases hm
  exact sr<|js (qb oi)<|nt<|ct<|tr<|JE.retA rfl (RvOK.tmp rfl)
 ·obtain ⟨e19,hl17,hm⟩ :=ob hm
  refine ck<|tn<|cs<|sr<|js (qb oi)<|nt<|JC.joinS e19 (fun s25=>[]) (fun s25=>[]) (fun s25 he=>?_) (fun _ hK18=>?_)
  ·cases he
   try dsimp only at hm
   cases hm
   exact tn<|sr<|js (qb oi)<|nt<|ct<|JE.retA rfl (RvOK.tmp rfl)
  ·refine cb<|JC.loop _ (fun s24=>[(0, D (RSlice R_api_Off) a0), (3, D (RInt .i64) s24)]) (fun s24=>[]) _ ?_ _ hl17 ml
   intro v12 r23 _ hs20 hB21 hE22
   try dsimp only at hs20
   refine cs<|sr<|js (qa ot)<|js (qa ot)<|js (qf ot u63)<|js (qh ot ot)<|nt<|cn ot hs20 (fun hc26 hs20=>?_) fun hc26 hs20=>?_
   ·obtain ⟨hb27,hs20⟩ :=og hs20
    obtain ⟨hb28,hs20⟩ :=og hs20
    refine ck<|tn<|cs<|cb<|cs<|cd mixed (da [0] (gu (qa ot))<|da [3] (gu (qa ot))<|da [19] (gu (qE ot oi))<|da [18,20] (gu (qj ot ot u63 ty123 hb27))<|da [21] (gu (qx ot (fp pl123) fo_api_Off_0))<|da [22] (gu (qi ot ty9))<|da [0] (gu (qa ot))<|da [3] (gu (qa ot))<|da [24,25] (gu (qj ot ot u63 ty123 hb28))<|da [26] (gu (qx ot (fp pl123) fo_api_Off_0))<|da [27] (gu (qi ot ty9))<|da [23,28] (gu (qY ot ot))<|an)<|jv [0,3,29] [] ?_
    refine nt<|cn ot hs20 (fun hc29 hs20=>?_) fun hc29 hs20=>?_
    ·cases hs20
     cases (hE22 _ rfl)
     cases hm
     exact sr<|js (qb oi)<|nt<|ct<|br<|tr<|tr<|br<|tr<|tr<|JE.retA rfl (RvOK.tmp rfl)
    ·cases hs20
     exact ck<|bn<|tn<|cr<|js (qa ot)<|js (qk ot oi)<|js (qb ot)<|jn<|mt (hB21 _ rfl)
   ·cases hs20
    cases (hE22 _ rfl)
    exact cx<|tx<|tx<|bx<|mt (hK18 _ rfl)
theorem topic_Find_1_con (a0) (c0) (r) (hm : topic_Find_1 a0 c0 = r) : PC 217 [D R_api_Topic a0,D (RPtr RStr) c0] (D RBool r) := by
 refine PI func217 fun w O=>?_
 unfold topic_Find_1 at hm
 cases hm
 exact sr<|js (qq (i:=1) ot)<|js (qb oB)<|nt<|sr<|js (qc ot (fp pl62))<|js (qd ot fo_api_Topic_0 ty9)<|js (qi ot ty9)<|js (qz ot ot)<|js (qb ot)<|nt<|ct<|JE.retA rfl (RvOK.tmp rfl)
theorem slices_IndexFunc_api_Topic_api_Topic__topic_Find_1_con (a0) (a1_0) (r) (hm : slices_IndexFunc_api_Topic_api_Topic__topic_Find_1 a0 a1_0 = some r) : PC 216 [D (RSlice R_api_Topic) a0,FV 217 [D (RPtr RStr) a1_0]] (D (RInt .i64) r) := by
 refine PI func216 fun w O=>?_
 unfold slices_IndexFunc_api_Topic_api_Topic__topic_Find_1 at hm
 obtain ⟨e10,hl8,hm⟩ :=ob hm
 refine sr<|js (qb oi)<|nt<|cs<|sr<|js (qa ot)<|js (qf ot u22)<|js (qa oi)<|nt<|JC.joinS e10 (fun s16=>[]) (fun s16=>[]) (fun s16 he=>?_) (fun _ hK9=>?_)
 ·cases he
  try dsimp only at hm
  cases hm
  exact tn<|sr<|js (qb oi)<|nt<|ct<|JE.retA rfl (RvOK.tmp rfl)
 ·refine cb<|JC.loop _ (fun s15=>[(0, D (RSlice R_api_Topic) a0), (1, FV 217 [D (RPtr RStr) a1_0]), (7, D (RInt .i64) (List.length a0 : Int)), (8, D (RInt .i64) s15)]) (fun s15=>[]) _ ?_ _ hl8 ml
  intro v4 r14 _ hs11 hB12 hE13
  try dsimp only at hs11
  refine sr<|js (qh ot ot)<|nt<|cs<|cn ot hs11 (fun hc17 hs11=>?_) fun hc17 hs11=>?_
  ·obtain ⟨hb18,hs11⟩ :=og hs11
   refine ck<|tn<|cs<|cb<|sr<|js (qa ot)<|js (qb ot)<|nt<|sr<|js (qa ot)<|js (qa ot)<|js (qa ot)<|js (qj ot ot u22 ty62 hb18)<|js (qi ot ty62)<|js (qL (F:=[]) ot (topic_Find_1_con (nth a0 v4) a1_0 _ rfl) call217 (ze zn) (FzE.dat FzE.nil) WI.bool)<|nt<|cn ot hs11 (fun hc19 hs11=>?_) fun hc19 hs11=>?_
   ·cases hs11
    cases (hE13 _ rfl)
    cases hm
    exact sr<|js (qa ot)<|js (qb ot)<|nt<|ct<|br<|tr<|tr<|br<|tr<|tr<|JE.retA rfl (RvOK.tmp rfl)
   ·cases hs11
    exact ck<|bn<|tn<|cr<|js (qk ot oi)<|js (qa ot)<|jn<|mt (hB12 _ rfl)
  ·cases hs11
   cases (hE13 _ rfl)
   exact cx<|tx<|tx<|bx<|mt (hK9 _ rfl)
theorem topic_Find_con (a0) (a1) (r) (hm : topic_Find a0 a1 = some r) : PC 197 [D (RSlice R_api_Topic) a0,D RStr a1] (TUP [D (RInt .i64) r.1,D RBool r.2]) := by
 refine PI func197 fun w O=>?_
 unfold topic_Find at hm
 obtain ⟨x1,hx2,hm⟩ :=ob hm
 refine sr<|js (qq (i:=1) ot)<|js (qb oi)<|js (qb oB)<|nt<|sr<|js (qa ot)<|js (qR (Caps.cons ot (Caps.nil (xs := []))))<|js (qL (F:=[1]) oF (slices_IndexFunc_api_Topic_api_Topic__topic_Find_1_con a0 a1 _ hx2) call216 (ze (zc (OpdF.fv ot (FzE.bp rfl FieldOf.self rfl FzE.nil)) zn)) FzE.nil WI.int)<|js (qb ot)<|nt<|cs<|sr<|js (qa ot)<|js (qh ot oi)<|nt<|cn ot hm (fun hc3 hm=>?_) fun hc3 hm=>?_
 ·cases hm
  exact sr<|js (qb oi)<|js (qb oB)<|nt<|ct<|tr<|JE.retB rfl (RvOK.tmp rfl) (RvOK.tmp rfl)
 ·cases hm
  exact ck<|tn<|sr<|js (qa ot)<|js (qb ot)<|js (qb oB)<|nt<|ct<|JE.retB rfl (RvOK.tmp rfl) (RvOK.tmp rfl)
theorem route_end_con (a0) (r) (hm : route_end a0 = r) : PC 198 [D R_api_Topic a0] (D (RInt .i64) r) := by
 refine PI func198 fun w O=>?_
 unfold route_end at hm
 cases hm
 exact sr<|js (qq (i:=1) ot)<|js (qb oi)<|nt<|sr<|js (qc ot (fp pl62))<|js (qd ot fo_api_Topic_1 ty3)<|js (qc ot (fp pl62))<|js (qd ot fo_api_Topic_2 ty40)<|js (qf ot u40)<|js (qk ot ot)<|js (qb ot)<|nt<|ct<|JE.retA rfl (RvOK.tmp rfl)
theorem route_read_con (a0) (a1) (r) (hm : route_read a0 a1 = some r) : PC 165 [D (RSlice R_api_Off) a0,D (RSlice R_api_Topic) a1] (D RBool r) := by
 refine PI func165 fun w O=>?_
 unfold route_read at hm
 obtain ⟨x1,hx2,hm⟩ :=ob hm
 refine sr<|js (qb oB)<|nt<|cs<|sr<|js (qa ot)<|js (qe oF (offs_Check_con a0 _ hx2) call196 (ze zn))<|js (qw ot oi)<|nt<|cn ot hm (fun hc3 hm=>?_) fun hc3 hm=>?_
 ·cases hm
  exact sr<|js (qb oB)<|nt<|ct<|tr<|JE.retA rfl (RvOK.tmp rfl)
 ·obtain ⟨e37,hl35,hm⟩ :=ob hm
  refine ck<|tn<|cs<|sr<|js (qa ot)<|js (qf ot u63)<|js (qa oi)<|nt<|JC.joinS e37 (fun s43=>[]) (fun s43=>[]) (fun s43 he=>?_) (fun _ hK36=>?_)
  ·cases he
   try dsimp only at hm
   cases hm
   exact tn<|sr<|js (qb oB)<|nt<|ct<|JE.retA rfl (RvOK.tmp rfl)
  ·refine cb<|JC.loop _ (fun s42=>[(1, D (RSlice R_api_Topic) a1), (12, D (RSlice R_api_Off) a0), (13, D (RInt .i64) (List.length a0 : Int)), (14, D (RInt .i64) s42)]) (fun s42=>[]) _ ?_ _ hl35 ml
   intro v19 r41 _ hs38 hB39 hE40
   try dsimp only at hs38
   refine sr<|js (qh ot ot)<|nt<|cs<|cn ot hs38 (fun hc44 hs38=>?_) fun hc44 hs38=>?_
   ·obtain ⟨hb45,hs38⟩ :=og hs38
    obtain ⟨x46,hx47,hs38⟩ :=ob hs38
    obtain ⟨hb53,hs38⟩ :=og hs38
    refine ck<|tn<|cs<|cb<|sr<|js (qj ot ot u63 ty123 hb45)<|js (qi ot ty123)<|js (qp (i:=3) zero123)<|js (qo ot ot ty123)<|nt<|sr<|js (qa ot)<|js (qc ot (fp pl123))<|js (qd ot fo_api_Off_0 ty9)<|js (qe oF (topic_Find_con a1 (api_Off.Topic (nth a0 v19)) _ hx47) call197 (ze (ze zn)))<|js (qa ot)<|js (qu ot)<|js (qu ot)<|js (qb ot)<|js (qb ot)<|nt<|cs<|cd mixed (da [8] (gu (qa ot))<|da [25] (gu (qr ot))<|da [26] (gu (qa ot))<|da [27,6] (gg fun hg48=>qc (off:=1) ot (fp pl123))<|db [27,28] [3] [] (gg fun hg49=>qd (get:=fun d => api_Off.Next d) (ow hg49) fo_api_Off_1 ty3)<|da [27,1] (gg fun hg50=>qa ot)<|da [27,7] (gg fun hg51=>qa ot)<|da [27,30,31] (gg fun hg52=>qj (ow hg52) (ow hg52) u22 ty62 (hb53 hg52))<|da [27,32] (gg fun hg54=>qi (ow hg54) ty62)<|da [27,33] (gg fun hg55=>qe oF (route_end_con (nth a1 x46.1) _ rfl) call198 (zc (zo (ow hg55)) zn))<|da [27,29,34] (gg fun hg56=>qs (ow hg56) (ow hg56))<|da [27,35] (gu (qm ot (fun hk57 => ow hk57)))<|an)<|jv [1,12,13,14,36] [] ?_
    refine nt<|cn ot hs38 (fun hc58 hs38=>?_) fun hc58 hs38=>?_
    ·cases hs38
     cases (hE40 _ rfl)
     cases hm
     exact sr<|js (qb oB)<|nt<|ct<|br<|tr<|tr<|br<|tr<|tr<|JE.retA rfl (RvOK.tmp rfl)
    ·cases hs38
     exact ck<|bn<|tn<|cr<|js (qk ot oi)<|js (qa ot)<|jn<|mt (hB39 _ rfl)
   ·cases hs38
    cases (hE40 _ rfl)
    exact cx<|tx<|tx<|bx<|mt (hK36 _ rfl)
theorem inst_Count_con (a0) (r) (hm : inst_Count a0 = some r) : PC 199 [D (RSlice R_api_Inst) a0] (D (RInt .i64) r) := by
 refine PI func199 fun w O=>?_
 unfold inst_Count at hm
 obtain ⟨v7,hl8,hm⟩ :=ob hm
 refine sr<|js (qb oi)<|nt<|sr<|js (qb oi)<|nt<|cs<|sr<|js (qa ot)<|js (qf ot u64)<|js (qa oi)<|nt<|JC.join [(3, D (RInt .i64) v7)] [] ?_ (fun _ hK9=>?_)
 ·cases hm
  exact tn<|sr<|js (qa ot)<|js (qb ot)<|nt<|ct<|JE.retA rfl (RvOK.tmp rfl)
 ·refine cb<|JC.loop _ (fun s15=>[(3, D (RInt .i64) s15.1), (6, D (RSlice R_api_Inst) a0), (7, D (RInt .i64) (List.length a0 : Int)), (8, D (RInt .i64) s15.2)]) (fun s15=>[]) _ ?_ _ hl8 ml
  intro s15 r14 _ hs11 hB12 hE13
  obtain ⟨v3, v4⟩ := s15
  try dsimp only at hs11
  refine sr<|js (qh ot ot)<|nt<|cs<|cn ot hs11 (fun hc17 hs11=>?_) fun hc17 hs11=>?_
  ·obtain ⟨hb18,hs11⟩ :=og hs11
   cases hs11
   exact ck<|tn<|cs<|cb<|sr<|js (qj ot ot u64 ty127 hb18)<|js (qi ot ty127)<|js (qp (i:=3) zero127)<|js (qo ot ot ty127)<|nt<|cr<|js (qa ot)<|js (qc ot (fp pl127))<|js (qd ot fo_api_Inst_1 ty125)<|js (qf ot u125)<|js (qk ot ot)<|js (qb ot)<|jn<|bn<|tn<|cr<|js (qk ot oi)<|js (qa ot)<|jn<|mt (hB12 _ rfl)
  ·cases hs11
   cases (hE13 _ rfl)
   exact cx<|tx<|tx<|bx<|mt hK9
theorem route_counted_con (a0) (r) (hm : route_counted a0 = some r) : PC 166 [D R_api_Sub a0] (D RBool r) := by
 refine PI func166 fun w O=>?_
 unfold route_counted at hm
 refine sr<|js (qq (i:=1) ot)<|js (qb oB)<|nt<|cs<|sr<|js (qc ot (fp pl66))<|js (qd ot fo_api_Sub_4 ty3)<|js (qh ot oi)<|js (qa ot)<|jg (fun hg1=>qc ot (fp pl66))<|jg (fun hg2=>qd (ow hg2) fo_api_Sub_5 ty3)<|jg (fun hg3=>qh (ow hg3) oi)<|js (qm ot (fun hk4 => ow hk4))<|js (qa ot)<|jg (fun hg5=>qc ot (fp pl66))<|jg (fun hg6=>qd (ow hg6) fo_api_Sub_6 ty3)<|jg (fun hg7=>qh (ow hg7) oi)<|js (qm ot (fun hk8 => ow hk8))<|js (qa ot)<|jg (fun hg9=>qc ot (fp pl66))<|jg (fun hg10=>qd (ow hg10) fo_api_Sub_7 ty3)<|jg (fun hg11=>qh (ow hg11) oi)<|js (qm ot (fun hk12 => ow hk12))<|js (qa ot)<|jg (fun hg13=>qc ot (fp pl66))<|jg (fun hg14=>qd (ow hg14) fo_api_Sub_6 ty3)<|jg (fun hg15=>qc ot (fp pl66))<|jg (fun hg16=>qd (ow hg16) fo_api_Sub_4 ty3)<|jg (fun hg17=>qs (ow hg17) (ow hg17))<|js (qm ot (fun hk18 => ow hk18))<|nt<|cn ot hm (fun hc19 hm=>?_) fun hc19 hm=>?_
 ·cases hm
  exact sr<|js (qb oB)<|nt<|ct<|tr<|JE.retA rfl (RvOK.tmp rfl)
 ·obtain ⟨x27,hx28,hm⟩ :=ob hm
  refine ck<|tn<|sr<|js (qc ot (fp pl66))<|js (qd ot fo_api_Sub_4 ty3)<|js (qc ot (fp pl66))<|js (qd ot fo_api_Sub_6 ty3)<|js (qE ot ot)<|js (qb ot)<|nt<|cs<|cd mixed (da [1] (gu (qc (off:=14) ot (fp pl66)))<|db [34] [1] [] (gu (qd (get:=fun d => api_Sub.Over d) ot fo_api_Sub_7 ty3))<|da [3] (gu (qa ot))<|da [35,36] (gu (qN ot ot))<|da [37] (gu (qa ot))<|da [38,3] (gg fun hg20=>qa ot)<|da [38,1] (gg fun hg21=>qc (off:=14) ot (fp pl66))<|db [38,40] [1] [] (gg fun hg22=>qd (get:=fun d => api_Sub.Over d) (ow hg22) fo_api_Sub_7 ty3)<|da [38,39,41] (gg fun hg23=>qE (ow hg23) (ow hg23))<|da [38,1] (gg fun hg24=>qc (off:=9) ot (fp pl66))<|db [38,43] [1] [] (gg fun hg25=>qd (get:=fun d => api_Sub.Insts d) (ow hg25) fo_api_Sub_2 ty64)<|da [38,44] (gg fun hg26=>qe oF (inst_Count_con (api_Sub.Insts a0) _ (of_pos hg26 hx28)) call199 (zc (zo (ow hg26)) zn))<|da [38,42,45] (gg fun hg29=>qy (ow hg29) (ow hg29))<|da [38,46] (gu (ql ot (fun hk30 => ow hk30)))<|an)<|jv [47] [] ?_
  cases hm
  exact js (qb ot)<|nt<|ct<|JE.retA rfl (RvOK.tmp rfl)
theorem cmp_isNaN_int64_con (a0) (r) (hm : cmp_isNaN_int64 a0 = r) : PC 241 [D (RInt .i64) a0] (D RBool r) := by
 refine PI func241 fun w O=>?_
 unfold cmp_isNaN_int64 at hm
 cases hm
 exact sr<|js (qb oB)<|nt<|sr<|js (qa ot)<|js (qa ot)<|js (qw ot ot)<|js (qb ot)<|nt<|ct<|JE.retA rfl (RvOK.tmp rfl)
theorem cmp_Compare_int64_con (a0) (a1) (r) (hm : cmp_Compare_int64 a0 a1 = r) : PC 229 [D (RInt .i64) a0,D (RInt .i64) a1] (D (RInt .i64) r) := by
 refine PI func229 fun w O=>?_
 unfold cmp_Compare_int64 at hm
 refine sr<|js (qb oi)<|nt<|sr<|js (qa ot)<|js (qe oF (cmp_isNaN_int64_con a0 _ rfl) call241 (ze zn))<|js (qb ot)<|nt<|sr<|js (qa ot)<|js (qe oF (cmp_isNaN_int64_con a1 _ rfl) call241 (ze zn))<|js (qb ot)<|nt<|cs<|sr<|js (qa ot)<|nt<|cn ot hm (fun hc1 hm=>?_) fun hc1 hm=>?_
 ·refine cs<|sr<|js (qa ot)<|nt<|cn ot hm (fun hc2 hm=>?_) fun hc2 hm=>?_
  ·cases hm
   exact sr<|js (qb oi)<|nt<|ct<|tr<|tr<|JE.retA rfl (RvOK.tmp rfl)
  ·cases hm
   exact ck<|tn<|sr<|js (qb oi)<|nt<|ct<|tr<|JE.retA rfl (RvOK.tmp rfl)
 ·refine ck<|tn<|cs<|sr<|js (qa ot)<|nt<|cn ot hm (fun hc3 hm=>?_) fun hc3 hm=>?_
  ·cases hm
   exact sr<|js (qb oi)<|nt<|ct<|tr<|JE.retA rfl (RvOK.tmp rfl)
  ·refine ck<|tn<|cs<|sr<|js (qa ot)<|js (qa ot)<|js (qh ot ot)<|nt<|cn ot hm (fun hc4 hm=>?_) fun hc4 hm=>?_
   ·cases hm
    exact sr<|js (qb oi)<|nt<|ct<|tr<|JE.retA rfl (RvOK.tmp rfl)
   ·refine ck<|tn<|cs<|sr<|js (qa ot)<|js (qa ot)<|js (qs ot ot)<|nt<|cn ot hm (fun hc5 hm=>?_) fun hc5 hm=>?_
    ·cases hm
     exact sr<|js (qb oi)<|nt<|ct<|tr<|JE.retA rfl (RvOK.tmp rfl)
    ·cases hm
     exact ck<|tn<|sr<|js (qb oi)<|nt<|ct<|JE.retA rfl (RvOK.tmp rfl)
theorem val_Order_con (a0) (a1) (r) (hm : val_Order a0 a1 = r) : PC 218 [D R_api_Value a0,D R_api_Value a1] (D (RInt .i64) r) := by
 refine PI func218 fun w O=>?_
 unfold val_Order at hm
 refine sr<|js (qq (i:=1) ot)<|js (qq (i:=2) ot)<|js (qb oi)<|nt<|cs<|cb<|sr<|js (qc ot (fp pl118))<|js (qd ot fo_api_Value_0 ty4)<|js (qa ot)<|jg (fun hg1=>qc ot (fp pl118))<|jg (fun hg2=>qd (ow hg2) fo_api_Value_0 ty4)<|js (ql ot (fun hk3 => ow hk3))<|js (qb ot)<|nt<|cn ot hm (fun hc4 hm=>?_) fun hc4 hm=>?_
 ·cases hm
  exact sr<|js (qc ot (fp pl118))<|js (qd ot fo_api_Value_1 ty2)<|js (qc ot (fp pl118))<|js (qd ot fo_api_Value_1 ty2)<|js (qe oF (cmp_Compare_int64_con (api_Value.N a0) (api_Value.N a1) _ rfl) call229 (ze (ze zn)))<|js (qb ot)<|nt<|ct<|br<|tr<|JE.retA rfl (RvOK.tmp rfl)
 ·refine sr<|js (qc ot (fp pl118))<|js (qd ot fo_api_Value_0 ty4)<|js (qb ot)<|nt<|cn ot hm (fun hc5 hm=>?_) fun hc5 hm=>?_
  ·cases hm
   exact sr<|js (qb oi)<|nt<|ct<|br<|tr<|JE.retA rfl (RvOK.tmp rfl)
  ·refine sr<|js (qc ot (fp pl118))<|js (qd ot fo_api_Value_0 ty4)<|js (qb ot)<|nt<|cn ot hm (fun hc6 hm=>?_) fun hc6 hm=>?_
   ·cases hm
    exact sr<|js (qb oi)<|nt<|ct<|br<|tr<|JE.retA rfl (RvOK.tmp rfl)
   ·cases hm
    exact ck<|bn<|tn<|sr<|js (qc ot (fp pl118))<|js (qd ot fo_api_Value_2 ty9)<|js (qc ot (fp pl118))<|js (qd ot fo_api_Value_2 ty9)<|js (qe oF (strings_Compare_con (api_Value.S a0) (api_Value.S a1) _ rfl) call230 (ze (ze zn)))<|js (qb ot)<|nt<|ct<|JE.retA rfl (RvOK.tmp rfl)
theorem join_time_con (a0) (r) (hm : join_time a0 = r) : PC 243 [D (RInt .i64) a0] (D RBool r) := by
 refine PI func243 fun w O=>?_
 unfold join_time at hm
 cases hm
 exact sr<|js (qb oB)<|nt<|sr<|js (qa ot)<|js (qI ot oi)<|js (qa ot)<|jg (fun hg1=>qa ot)<|jg (fun hg2=>qN (ow hg2) oi)<|js (ql ot (fun hk3 => ow hk3))<|js (qb ot)<|nt<|ct<|JE.retA rfl (RvOK.tmp rfl)
theorem join_fits_con (a0) (a1) (r) (hm : join_fits a0 a1 = r) : PC 231 [D R_api_Join a0,D R_api_Kept a1] (D RBool r) := by
 refine PI func231 fun w O=>?_
 unfold join_fits at hm
 cases hm
 exact sr<|js (qq (i:=1) ot)<|js (qq (i:=2) ot)<|js (qb oB)<|nt<|sr<|js (qc ot (fp pl153))<|js (qd ot fo_api_Kept_0 ty3)<|js (qI ot oi)<|js (qa ot)<|jg (fun hg1=>qc ot (fp pl153))<|jg (fun hg2=>qd (ow hg2) fo_api_Kept_0 ty3)<|jg (fun hg3=>qc ot (fp pl43))<|jg (fun hg4=>qd (ow hg4) fo_api_Join_1 ty3)<|jg (fun hg5=>qh (ow hg5) (ow hg5))<|js (ql ot (fun hk6 => ow hk6))<|js (qa ot)<|jg (fun hg7=>qc ot (fp pl153))<|jg (fun hg8=>qd (ow hg8) fo_api_Kept_2 ty3)<|jg (fun hg9=>qe oF (join_time_con (api_Kept.At a1) _ rfl) call243 (zc (zo (ow hg9)) zn))<|js (ql ot (fun hk10 => ow hk10))<|js (qb ot)<|nt<|ct<|JE.retA rfl (RvOK.tmp rfl)
theorem join_early_con (a0) (a1) (r) (hm : join_early a0 a1 = some r) : PC 232 [D (RSlice R_api_Kept) a0,D (RInt .i64) a1] (D RBool r) := by
 refine PI func232 fun w O=>?_
 unfold join_early at hm
 obtain ⟨hb7,hm⟩ :=og hm
 cases hm
 exact sr<|js (qb oB)<|nt<|sr<|js (qa ot)<|js (qf ot u125)<|js (qs ot oi)<|js (qa ot)<|jg (fun hg1=>qa ot)<|jg (fun hg2=>qa ot)<|jg (fun hg3=>qa ot)<|jg (fun hg4=>qf (ow hg4) u125)<|jg (fun hg5=>qE (ow hg5) oi)<|jg (fun hg6=>qj (ow hg6) (ow hg6) u125 ty153 (hb7 hg6))<|jg (fun hg8=>qx (ow hg8) (fp pl153) fo_api_Kept_2)<|jg (fun hg9=>qi (ow hg9) ty3)<|jg (fun hg10=>qh (ow hg10) (ow hg10))<|js (ql ot (fun hk11 => ow hk11))<|js (qb ot)<|nt<|ct<|JE.retA rfl (RvOK.tmp rfl)
theorem join_there_1_con (a0) (c0) (r) (hm : join_there_1 a0 c0 = r) : PC 245 [D R_api_Kept a0,D (RPtr (RInt .u64)) c0] (D RBool r) := by
 refine PI func245 fun w O=>?_
 unfold join_there_1 at hm
 cases hm
 exact sr<|js (qq (i:=1) ot)<|js (qb oB)<|nt<|sr<|js (qc ot (fp pl153))<|js (qd ot fo_api_Kept_1 ty46)<|js (qi ot ty46)<|js (qy ot ot)<|js (qb ot)<|nt<|ct<|JE.retA rfl (RvOK.tmp rfl)
theorem slices_IndexFunc_api_Kept_api_Kept__join_there_1_con (a0) (a1_0) (r) (hm : slices_IndexFunc_api_Kept_api_Kept__join_there_1 a0 a1_0 = some r) : PC 255 [D (RSlice R_api_Kept) a0,FV 245 [D (RPtr (RInt .u64)) a1_0]] (D (RInt .i64) r) := by
 refine PI func255 fun w O=>?_
 unfold slices_IndexFunc_api_Kept_api_Kept__join_there_1 at hm
 obtain ⟨e10,hl8,hm⟩ :=ob hm
 refine sr<|js (qb oi)<|nt<|cs<|sr<|js (qa ot)<|js (qf ot u125)<|js (qa oi)<|nt<|JC.joinS e10 (fun s16=>[]) (fun s16=>[]) (fun s16 he=>?_) (fun _ hK9=>?_)
 ·cases he
  try dsimp only at hm
  cases hm
  exact tn<|sr<|js (qb oi)<|nt<|ct<|JE.retA rfl (RvOK.tmp rfl)
 ·refine cb<|JC.loop _ (fun s15=>[(0, D (RSlice R_api_Kept) a0), (1, FV 245 [D (RPtr (RInt .u64)) a1_0]), (7, D (RInt .i64) (List.length a0 : Int)), (8, D (RInt .i64) s15)]) (fun s15=>[]) _ ?_ _ hl8 ml
  intro v4 r14 _ hs11 hB12 hE13
  try dsimp only at hs11
  refine sr<|js (qh ot ot)<|nt<|cs<|cn ot hs11 (fun hc17 hs11=>?_) fun hc17 hs11=>?_
  ·obtain ⟨hb18,hs11⟩ :=og hs11
   refine ck<|tn<|cs<|cb<|sr<|js (qa ot)<|js (qb ot)<|nt<|sr<|js (qa ot)<|js (qa ot)<|js (qa ot)<|js (qj ot ot u125 ty153 hb18)<|js (qi ot ty153)<|js (qL (F:=[]) ot (join_there_1_con (nth a0 v4) a1_0 _ rfl) call245 (ze zn) (FzE.dat FzE.nil) WI.bool)<|nt<|cn ot hs11 (fun hc19 hs11=>?_) fun hc19 hs11=>?_
   ·cases hs11
    cases (hE13 _ rfl)
    cases hm
    exact sr<|js (qa ot)<|js (qb ot)<|nt<|ct<|br<|tr<|tr<|br<|tr<|tr<|JE.retA rfl (RvOK.tmp rfl)
   ·cases hs11
    exact ck<|bn<|tn<|cr<|js (qk ot oi)<|js (qa ot)<|jn<|mt (hB12 _ rfl)
  ·cases hs11
   cases (hE13 _ rfl)
   exact cx<|tx<|tx<|bx<|mt (hK9 _ rfl)
theorem slices_ContainsFunc_api_Kept_api_Kept__join_there_1_con (a0) (a1_0) (r) (hm : slices_ContainsFunc_api_Kept_api_Kept__join_there_1 a0 a1_0 = some r) : PC 244 [D (RSlice R_api_Kept) a0,FV 245 [D (RPtr (RInt .u64)) a1_0]] (D RBool r) := by
 refine PI func244 fun w O=>?_
 unfold slices_ContainsFunc_api_Kept_api_Kept__join_there_1 at hm
 obtain ⟨x1,hx2,hm⟩ :=ob hm
 cases hm
 exact sr<|js (qb oB)<|nt<|sr<|js (qa ot)<|js (qa ot)<|js (qe oF (slices_IndexFunc_api_Kept_api_Kept__join_there_1_con a0 a1_0 _ hx2) call255 (ze (zc (OpdF.fv ot (FzE.dat FzE.nil)) zn)))<|js (qI ot oi)<|js (qb ot)<|nt<|ct<|JE.retA rfl (RvOK.tmp rfl)
end Go.Proofs
