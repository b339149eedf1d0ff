import Derived.Test.YthdcblpadgdamaaGreatDoorTzP1
set_option linter.all false
set_option maxRecDepth 100000
set_option maxHeartbeats 4000000
namespace Go.Proofs
open Go Go.Trw Tryz
theorem join_there_con (a0) (a1) (r) (hm : join_there a0 a1 = some r) : PC 233 [D (RSlice R_api_Kept) a0,D (RInt .u64) a1] (D RBool r) := by
 refine PI func233 fun w O=>?_
 unfold join_there at hm
 obtain ⟨x1,hx2,hm⟩ :=ob hm
 cases hm
 exact sr<|js (qq (i:=1) ot)<|js (qb oB)<|nt<|sr<|js (qa ot)<|js (qR (Caps.cons ot (Caps.nil (xs := []))))<|js (qL (F:=[1]) oF (slices_ContainsFunc_api_Kept_api_Kept__join_there_1_con a0 a1 _ hx2) call244 (ze (zc (OpdF.fv ot (FzE.bp rfl FieldOf.self rfl FzE.nil)) zn)) FzE.nil WI.bool)<|js (qb ot)<|nt<|ct<|JE.retA rfl (RvOK.tmp rfl)
theorem join_meets_1_con (c0) (c1) (r) (hm : join_meets_1 c0 c1 = some r) : PC 246 [D (RPtr (RSlice R_api_Kept)) c0,D (RPtr R_api_Join) c1] (D (RSlice (RInt .i64)) r) := by
 refine PI func246 fun w O=>?_
 unfold join_meets_1 at hm
 obtain ⟨v16,hl17,hm⟩ :=ob hm
 refine sr<|js (qb (Opd.nil (R := (RInt .i64))))<|nt<|sr<|js (qp (i:=1) zero310)<|nt<|sr<|js (qK (j:=2) (R:=(RInt .i64)) (E:=3) (.inr rfl))<|nt<|cs<|sr<|js (qi ot ty125)<|js (qf ot u125)<|js (qa oi)<|nt<|JC.join [(1, D (RPtr R_api_Join) c1), (4, OS 2)] [(2, OwnSl (RInt .i64) 3 v16)] ?_ (fun _ hK18=>?_)
 ·refine tn<|cs<|sr<|js (qa ot)<|js (qX ot u298)<|js (qx ot (fp pl43) fo_api_Join_1)<|js (qi ot ty3)<|js (qh ot ot)<|nt<|cn ot hm (fun hc26 hm=>?_) fun hc26 hm=>?_
  ·cases hm
   exact sr<|js (qb (Opd.nil (R := (RInt .i64))))<|nt<|ct<|tr<|JE.retA rfl (RvOK.tmp rfl)
  ·refine ck<|tn<|sr<|js (qa ot)<|js (qb ot)<|nt<|ct ?_
   refine JE.imp (Imp.frz 2 (ts := [4, 27, 32, 2]) rfl (.cons rfl (.cons rfl (.cons rfl (.cons rfl .nil))))) ?_
   cases hm
   exact JE.retA rfl (RvOK.tmp rfl)
 ·refine cb<|JC.loop _ (fun s24=>[(1, D (RPtr R_api_Join) c1), (3, BP 1 0), (4, OS 2), (7, D (RSlice R_api_Kept) c0), (8, D (RInt .i64) (List.length c0 : Int)), (9, D (RInt .i64) s24.1)]) (fun s24=>[(1, Box (RArr 6 RBool) 310 s24.2.1), (2, OwnSl (RInt .i64) 3 s24.2.2)]) _ ?_ _ hl17 ml
  intro s24 r23 _ hs20 hB21 hE22
  obtain ⟨v7, v8, v9⟩ := s24
  try dsimp only at hs20
  refine sr<|js (qh ot ot)<|nt<|cs<|cn ot hs20 (fun hc27 hs20=>?_) fun hc27 hs20=>?_
  ·obtain ⟨hb28,hs20⟩ :=og hs20
   obtain ⟨hb29,hs20⟩ :=og hs20
   refine ck<|tn<|cs<|cb<|sr<|js (qa ot)<|js (qj ot ot u125 ty153 hb28)<|js (qi ot ty153)<|js (qp (i:=7) zero153)<|js (qb ot)<|js (qo ot ot ty153)<|nt<|sr<|js (qc ot (fp pl153))<|js (qd ot fo_api_Kept_0 ty3)<|js (vb (o2:=0 + Int.toNat (api_Kept.Part (nth c0 v7)) * 1) ot ot u310 ty4 hb29)<|js (qd ot (FieldOf.comp FieldOf.self (RArr.fieldOf hb29)) ty4)<|js (qr ot)<|nt<|cn ot hs20 (fun hc30 hs20=>?_) fun hc30 hs20=>?_
   ·obtain ⟨hb31,hs20⟩ :=og hs20
    obtain ⟨hb32,hs20⟩ :=og hs20
    cases hs20
    refine sr<|js (qc ot (fp pl153))<|js (qd ot fo_api_Kept_0 ty3)<|js (vb (o2:=0 + Int.toNat (api_Kept.Part (nth c0 v7)) * 1) ot ot u310 ty4 hb31)<|js (qv ot oB (FieldSet.comp FieldOf.self FieldSet.self (RArr.fieldSet hb31)) ty4)<|nt<|cr<|js (qa ot)<|js (qa ot)<|js (qC u298 ty3 hz3 (.cons ot .nil))<|js (qB (j:=8) ot ot u298 sl3 hb32)<|js (qb ot)<|jn<|bn<|tn<|cr<|js (qk ot oi)<|js (qa ot)<|jn ?_
    exact JE.meetR [(1, 1), (2, 8)] (hB21 _ rfl) (by decide) (by decide) (CVR.cons (t := 1) rfl Ren.dat (CVR.cons (t := 3) rfl (Ren.bp rfl) (CVR.cons (t := 4) rfl (Ren.os rfl) (CVR.cons (t := 7) rfl Ren.dat (CVR.cons (t := 8) rfl Ren.dat (CVR.cons (t := 9) rfl Ren.dat CVR.nil)))))) (OVR.cons (i := 1) rfl RenO.box (OVR.cons (i := 8) rfl RenO.sl OVR.nil))
   ·cases hs20
    exact ck<|bn<|tn<|cr<|js (qk ot oi)<|js (qa ot)<|jn<|mt (hB21 _ rfl)
  ·cases hs20
   cases (hE22 _ rfl)
   exact cx<|tx<|tx<|bx<|mt hK18
theorem join_meets_1_o0_125_o1_con (o0) (o1) (r) (hm : join_meets_1_o0_125_o1 o0 o1 = some r) : SC 246 [(0,Box (RSlice R_api_Kept) 125 o0),(1,Box R_api_Join 43 o1)] [BP 0 0,BP 1 0] [(0,Box (RSlice R_api_Kept) 125 r.2.1),(1,Box R_api_Join 43 r.2.2)] (D (RSlice (RInt .i64)) r.1) := by
 refine SI func246 (fun gs=>[(0, BoxAt (IsV (gs 0)) (RSlice R_api_Kept) 125 o0), (1, BoxAt (IsV (gs 1)) R_api_Join 43 o1)]) (fun gs=>(.box (.box .nil))) fun w O gs own hk=>?_
 unfold join_meets_1_o0_125_o1 at hm
 obtain ⟨v16,hl17,hm⟩ :=ob hm
 refine sr<|js (qb (Opd.nil (R := (RInt .i64))))<|nt<|sr<|js (qp (i:=3) zero310)<|nt<|sr<|js (qK (j:=4) (R:=(RInt .i64)) (E:=3) (.inr rfl))<|nt<|cs<|sr<|js (qn ot ty125)<|js (qf ot u125)<|js (qa oi)<|nt<|JC.join [(1, BP 1 0), (4, OS 4)] [(0, BoxAt (IsV (gs 0)) (RSlice R_api_Kept) 125 o0), (1, BoxAt (IsV (gs 1)) R_api_Join 43 o1), (4, OwnSl (RInt .i64) 3 v16)] ?_ (fun _ hK18=>?_)
 ·refine tn<|cs<|sr<|js (qa ot)<|js (qX ot u298)<|js (qc ot (fp pl43))<|js (qd ot fo_api_Join_1 ty3)<|js (qh ot ot)<|nt<|cn ot hm (fun hc26 hm=>?_) fun hc26 hm=>?_
  ·cases hm
   exact sr<|js (qb (Opd.nil (R := (RInt .i64))))<|nt<|ct<|tr<|JE.retSA hk (.box rfl (.box rfl .nil)) (.box rfl (.box rfl .nil)) rfl (RvS.tmp rfl)
  ·refine ck<|tn<|sr<|js (qa ot)<|js (qb ot)<|nt<|ct ?_
   refine JE.imp (Imp.frz 4 (ts := [4, 27, 32, 2]) rfl (.cons rfl (.cons rfl (.cons rfl (.cons rfl .nil))))) ?_
   cases hm
   exact JE.retSA hk (.box rfl (.box rfl .nil)) (.box rfl (.box rfl .nil)) rfl (RvS.tmp rfl)
 ·refine cb<|JC.loop _ (fun s24=>[(1, BP 1 0), (3, BP 3 0), (4, OS 4), (7, D (RSlice R_api_Kept) o0), (8, D (RInt .i64) (List.length o0 : Int)), (9, D (RInt .i64) s24.1)]) (fun s24=>[(0, BoxAt (IsV (gs 0)) (RSlice R_api_Kept) 125 o0), (1, BoxAt (IsV (gs 1)) R_api_Join 43 o1), (3, Box (RArr 6 RBool) 310 s24.2.1), (4, OwnSl (RInt .i64) 3 s24.2.2)]) _ ?_ _ hl17 ml
  intro s24 r23 _ hs20 hB21 hE22
  obtain ⟨v7, v8, v9⟩ := s24
  try dsimp only at hs20
  refine sr<|js (qh ot ot)<|nt<|cs<|cn ot hs20 (fun hc27 hs20=>?_) fun hc27 hs20=>?_
  ·obtain ⟨hb28,hs20⟩ :=og hs20
   obtain ⟨hb29,hs20⟩ :=og hs20
   refine ck<|tn<|cs<|cb<|sr<|js (qa ot)<|js (qj ot ot u125 ty153 hb28)<|js (qi ot ty153)<|js (qp (i:=9) zero153)<|js (qb ot)<|js (qo ot ot ty153)<|nt<|sr<|js (qc ot (fp pl153))<|js (qd ot fo_api_Kept_0 ty3)<|js (vb (o2:=0 + Int.toNat (api_Kept.Part (nth o0 v7)) * 1) ot ot u310 ty4 hb29)<|js (qd ot (FieldOf.comp FieldOf.self (RArr.fieldOf hb29)) ty4)<|js (qr ot)<|nt<|cn ot hs20 (fun hc30 hs20=>?_) fun hc30 hs20=>?_
   ·obtain ⟨hb31,hs20⟩ :=og hs20
    obtain ⟨hb32,hs20⟩ :=og hs20
    cases hs20
    refine sr<|js (qc ot (fp pl153))<|js (qd ot fo_api_Kept_0 ty3)<|js (vb (o2:=0 + Int.toNat (api_Kept.Part (nth o0 v7)) * 1) ot ot u310 ty4 hb31)<|js (qv ot oB (FieldSet.comp FieldOf.self FieldSet.self (RArr.fieldSet hb31)) ty4)<|nt<|cr<|js (qa ot)<|js (qa ot)<|js (qC u298 ty3 hz3 (.cons ot .nil))<|js (qB (j:=10) ot ot u298 sl3 hb32)<|js (qb ot)<|jn<|bn<|tn<|cr<|js (qk ot oi)<|js (qa ot)<|jn ?_
    exact JE.meetR [(0, 0), (1, 1), (3, 3), (4, 10)] (hB21 _ rfl) (by decide) (by decide) (CVR.cons (t := 1) rfl (Ren.bp rfl) (CVR.cons (t := 3) rfl (Ren.bp rfl) (CVR.cons (t := 4) rfl (Ren.os rfl) (CVR.cons (t := 7) rfl Ren.dat (CVR.cons (t := 8) rfl Ren.dat (CVR.cons (t := 9) rfl Ren.dat CVR.nil)))))) (OVR.cons (i := 0) rfl RenO.box (OVR.cons (i := 1) rfl RenO.box (OVR.cons (i := 3) rfl RenO.box (OVR.cons (i := 10) rfl RenO.sl OVR.nil))))
   ·cases hs20
    exact ck<|bn<|tn<|cr<|js (qk ot oi)<|js (qa ot)<|jn<|mt (hB21 _ rfl)
  ·cases hs20
   cases (hE22 _ rfl)
   exact cx<|tx<|tx<|bx<|mt hK18
theorem join_upto_con (a0) (a1) (r) (hm : join_upto a0 a1 = some r) : PC 248 [D (RInt .i64) a0,D (RInt .i64) a1] (D (RSlice (RInt .i64)) r) := by
 refine PI func248 fun w O=>?_
 unfold join_upto at hm
 refine sr<|js (qb (Opd.nil (R := (RInt .i64))))<|nt<|cs<|sr<|js (qa ot)<|js (qa ot)<|js (qh ot ot)<|nt<|cn ot hm (fun hc1 hm=>?_) fun hc1 hm=>?_
 ·cases hm
  exact sr<|js (qb (Opd.nil (R := (RInt .i64))))<|nt<|ct<|tr<|JE.retA rfl (RvOK.tmp rfl)
 ·obtain ⟨hb2,hm⟩ :=og hm
  obtain ⟨v9,hl10,hm⟩ :=ob hm
  refine ck<|tn<|sr<|js (qa ot)<|js (vh (j:=1) ot ot u298 sl3 zero3 hb2)<|js (qb ot)<|nt<|cs<|sr<|js (qa ot)<|js (qX ot u298)<|js (qa oi)<|nt<|JC.join [(5, OS 1)] [(1, OwnSl (RInt .i64) 3 v9)] ?_ (fun _ hK11=>?_)
  ·refine tn<|sr<|js (qa ot)<|js (qb ot)<|nt<|ct ?_
   refine JE.imp (Imp.frz 1 (ts := [5, 22, 4]) rfl (.cons rfl (.cons rfl (.cons rfl .nil)))) ?_
   cases hm
   exact JE.retA rfl (RvOK.tmp rfl)
  ·refine cb<|JC.loop _ (fun s17=>[(5, OS 1), (13, D (RInt .i64) (List.length (List.replicate (Int.toNat a0) 0 : (List Int)) : Int)), (14, D (RInt .i64) s17.1)]) (fun s17=>[(1, OwnSl (RInt .i64) 3 s17.2)]) _ ?_ _ hl10 ml
   intro s17 r16 _ hs13 hB14 hE15
   obtain ⟨v5, v6⟩ := s17
   try dsimp only at hs13
   refine sr<|js (qh ot ot)<|nt<|cs<|cn ot hs13 (fun hc19 hs13=>?_) fun hc19 hs13=>?_
   ·obtain ⟨hb20,hs13⟩ :=og hs13
    cases hs13
    exact ck<|tn<|cs<|cb<|sr<|js (qa ot)<|js (qb ot)<|nt<|cr<|js (qa ot)<|js (qa ot)<|js (qa ot)<|js (qT ot ot u298 ty3 hb20)<|js (ve ot ot FieldSet.self ty3 hb20)<|jn<|bn<|tn<|cr<|js (qk ot oi)<|js (qa ot)<|jn<|mt (hB14 _ rfl)
   ·cases hs13
    cases (hE15 _ rfl)
    exact cx<|tx<|tx<|bx<|mt hK11
theorem join_meets_2_con (c0) (r) (hm : join_meets_2 c0 = some r) : PC 247 [D (RPtr (RSlice R_api_Kept)) c0] (D (RSlice (RInt .i64)) r) := by
 refine PI func247 fun w O=>?_
 unfold join_meets_2 at hm
 obtain ⟨x1,hx2,hm⟩ :=ob hm
 cases hm
 exact sr<|js (qb (Opd.nil (R := (RInt .i64))))<|nt<|sr<|js (qi ot ty125)<|js (qf ot u125)<|js (qe oF (join_upto_con (1 : Int) (List.length c0 : Int) _ hx2) call248 (zc (zo oi) (ze zn)))<|js (qb ot)<|nt<|ct<|JE.retA rfl (RvOK.tmp rfl)
theorem join_meets_2_o0_125_con (o0) (r) (hm : join_meets_2_o0_125 o0 = some r) : SC 247 [(0,Box (RSlice R_api_Kept) 125 o0)] [BP 0 0] [(0,Box (RSlice R_api_Kept) 125 r.2)] (D (RSlice (RInt .i64)) r.1) := by
 refine SI func247 (fun gs=>[(0, BoxAt (IsV (gs 0)) (RSlice R_api_Kept) 125 o0)]) (fun gs=>(.box .nil)) fun w O gs own hk=>?_
 unfold join_meets_2_o0_125 at hm
 obtain ⟨x1,hx2,hm⟩ :=ob hm
 cases hm
 exact sr<|js (qb (Opd.nil (R := (RInt .i64))))<|nt<|sr<|js (qn ot ty125)<|js (qf ot u125)<|js (qe oF (join_upto_con (1 : Int) (List.length o0 : Int) _ hx2) call248 (zc (zo oi) (ze zn)))<|js (qb ot)<|nt<|ct<|JE.retSA hk (.box rfl .nil) (.box rfl .nil) rfl (RvS.tmp rfl)
theorem join_meets_3_con (c0) (c1) (r) (hm : join_meets_3 c0 c1 = some r) : PC 249 [D (RPtr R_api_Join) c0,D (RPtr (RSlice R_api_Kept)) c1] (D (RSlice (RInt .i64)) r) := by
 refine PI func249 fun w O=>?_
 unfold join_meets_3 at hm
 obtain ⟨x1,hx2,hm⟩ :=ob hm
 cases hm
 exact sr<|js (qb (Opd.nil (R := (RInt .i64))))<|nt<|sr<|js (qx ot (fp pl43) fo_api_Join_2)<|js (qi ot ty3)<|js (qi ot ty125)<|js (qf ot u125)<|js (qe oF (join_upto_con (api_Join.Need c0) (List.length c1 : Int) _ hx2) call248 (ze (ze zn)))<|js (qb ot)<|nt<|ct<|JE.retA rfl (RvOK.tmp rfl)
theorem join_meets_3_o0_o1_125_con (o0) (o1) (r) (hm : join_meets_3_o0_o1_125 o0 o1 = some r) : SC 249 [(0,Box R_api_Join 43 o0),(1,Box (RSlice R_api_Kept) 125 o1)] [BP 0 0,BP 1 0] [(0,Box R_api_Join 43 r.2.1),(1,Box (RSlice R_api_Kept) 125 r.2.2)] (D (RSlice (RInt .i64)) r.1) := by
 refine SI func249 (fun gs=>[(0, BoxAt (IsV (gs 0)) R_api_Join 43 o0), (1, BoxAt (IsV (gs 1)) (RSlice R_api_Kept) 125 o1)]) (fun gs=>(.box (.box .nil))) fun w O gs own hk=>?_
 unfold join_meets_3_o0_o1_125 at hm
 obtain ⟨x1,hx2,hm⟩ :=ob hm
 cases hm
 exact sr<|js (qb (Opd.nil (R := (RInt .i64))))<|nt<|sr<|js (qc ot (fp pl43))<|js (qd ot fo_api_Join_2 ty3)<|js (qn ot ty125)<|js (qf ot u125)<|js (qe oF (join_upto_con (api_Join.Need o0) (List.length o1 : Int) _ hx2) call248 (ze (ze zn)))<|js (qb ot)<|nt<|ct<|JE.retSA hk (.box rfl (.box rfl .nil)) (.box rfl (.box rfl .nil)) rfl (RvS.tmp rfl)
theorem join_meets_con (a0) (a1) (r) (hm : join_meets a0 a1 = some r) : PC 234 [D R_api_Join a0,D (RSlice R_api_Kept) a1] (D (RSlice (RInt .i64)) r) := by
 refine PI func234 fun w O=>?_
 unfold join_meets at hm
 refine sr<|js (qq (i:=1) ot)<|js (qq (i:=2) ot)<|js (qb (Opd.nil (R := (RInt .i64))))<|nt<|sr<|js (vu (j:=3) (κ:=Str) (kv:=strV))<|js (qR (Caps.cons ot (Caps.cons ot (Caps.nil (xs := [])))))<|js (vg (.inl rfl) ot oS ot u313 (KeyOK.str u9))<|js (qR (Caps.cons ot (Caps.nil (xs := []))))<|js (vg (.inl rfl) ot oS ot u313 (KeyOK.str u9))<|js (qR (Caps.cons ot (Caps.cons ot (Caps.nil (xs := [])))))<|js (vg (.inl rfl) ot oS ot u313 (KeyOK.str u9))<|js (qa ot)<|js (qb ot)<|nt<|sr<|js (qa ot)<|js (qc ot (fp pl43))<|js (qd ot fo_api_Join_0 ty9)<|js (vH ot ot u313 (KeyOK.str u9) hz311)<|js (qa ot)<|js (qu ot)<|js (qu ot)<|js (qb ot)<|js (qb ot)<|nt<|cs<|sr<|js (qa ot)<|js (qr ot)<|nt<|cn ot hm (fun hc1 hm=>?_) fun hc1 hm=>?_
 ·cases hm
  exact sr<|js (qb (Opd.nil (R := (RInt .i64))))<|nt<|ct<|tr<|JE.retA rfl (RvOK.tmp rfl)
 ·refine ck<|tn<|sr<|js (qa ot) ?_
  by_cases hk2 : (api_Join.Kind a0) = ([97, 108, 108] : Str)
  ·rw [if_pos hk2] at hm
   refine JL.imp (Imp.see (ts := [18, 6, 22]) (.cons rfl (.cons rfl (.cons rfl .nil))) (CaseE.see (by rw [hk2]; rfl))) ?_
   obtain ⟨x3,hx4,hm⟩ :=ob hm
   cases hm
   exact js (qg (σ:=[(0, 2), (1, 1)]) ot (join_meets_1_o0_125_o1_con a1 a0 _ hx4) call246 .nil (.cons (Ren.bp rfl) (.cons (Ren.bp rfl) .nil)) (.box rfl (.box rfl .nil)) RenB.dat)<|js (qb ot)<|nt<|ct<|JE.retA rfl (RvOK.tmp rfl)
  rw [if_neg hk2] at hm
  by_cases hk5 : (api_Join.Kind a0) = ([97, 110, 121] : Str)
  ·rw [if_pos hk5] at hm
   refine JL.imp (Imp.see (ts := [18, 6, 22]) (.cons rfl (.cons rfl (.cons rfl .nil))) (CaseE.see (by rw [hk5]; rfl))) ?_
   obtain ⟨x6,hx7,hm⟩ :=ob hm
   cases hm
   exact js (qg (σ:=[(0, 2)]) ot (join_meets_2_o0_125_con a1 _ hx7) call247 .nil (.cons (Ren.bp rfl) .nil) (.box rfl .nil) RenB.dat)<|js (qb ot)<|nt<|ct<|JE.retA rfl (RvOK.tmp rfl)
  rw [if_neg hk5] at hm
  by_cases hk8 : (api_Join.Kind a0) = ([99, 111, 117, 110, 116] : Str)
  ·rw [if_pos hk8] at hm
   refine JL.imp (Imp.see (ts := [18, 6, 22]) (.cons rfl (.cons rfl (.cons rfl .nil))) (CaseE.see (by rw [hk8]; rfl))) ?_
   obtain ⟨x9,hx10,hm⟩ :=ob hm
   cases hm
   exact js (qg (σ:=[(0, 1), (1, 2)]) ot (join_meets_3_o0_o1_125_con a0 a1 _ hx10) call249 .nil (.cons (Ren.bp rfl) (.cons (Ren.bp rfl) .nil)) (.box rfl (.box rfl .nil)) RenB.dat)<|js (qb ot)<|nt<|ct<|JE.retA rfl (RvOK.tmp rfl)
  rw [if_neg hk8] at hm
  cases hm
theorem join_Check_con (a0) (a1) (r) (hm : join_Check a0 a1 = some r) : PC 219 [D R_api_Join a0,D (RSlice R_api_Kept) a1] (D (RInt .i64) r) := by
 refine PI func219 fun w O=>?_
 unfold join_Check at hm
 obtain ⟨x1,hx2,hm⟩ :=ob hm
 refine sr<|js (qq (i:=1) ot)<|js (qb oi)<|nt<|cs<|sr<|js (qn ot ty43)<|js (qe oF (join_May_con a0 _ hx2) call146 (ze zn))<|js (qr ot)<|js (qa ot)<|jg (fun hg3=>qa ot)<|jg (fun hg4=>qf (ow hg4) u125)<|jg (fun hg5=>qI (ow hg5) oi)<|js (qm ot (fun hk6 => ow hk6))<|nt<|cn ot hm (fun hc7 hm=>?_) fun hc7 hm=>?_
 ·cases hm
  exact sr<|js (qb oi)<|nt<|ct<|tr<|JE.retA rfl (RvOK.tmp rfl)
 ·obtain ⟨e57,hl55,hm⟩ :=ob hm
  refine ck<|tn<|cs<|sr<|js (qa ot)<|js (qf ot u125)<|js (qa oi)<|nt<|JC.joinS e57 (fun s63=>[(1, D (RSlice R_api_Kept) a1), (2, BP 1 0)]) (fun s63=>[(1, Box R_api_Join 43 a0)]) (fun s63 he=>?_) (fun _ hK56=>?_)
  ·cases he
   try dsimp only at hm
   obtain ⟨x64,hx65,hm⟩ :=ob hm
   refine tn<|cs<|sr<|js (qn ot ty43)<|js (qa ot)<|js (qe oF (join_meets_con a0 a1 _ hx65) call234 (ze (ze zn)))<|js (qf ot u298)<|js (qs ot oi)<|nt<|cn ot hm (fun hc66 hm=>?_) fun hc66 hm=>?_
   ·cases hm
    exact sr<|js (qb oi)<|nt<|ct<|tr<|JE.retA rfl (RvOK.tmp rfl)
   ·cases hm
    exact ck<|tn<|sr<|js (qb oi)<|nt<|ct<|JE.retA rfl (RvOK.tmp rfl)
  ·refine cb<|JC.loop _ (fun s62=>[(1, D (RSlice R_api_Kept) a1), (2, BP 1 0), (15, D (RSlice R_api_Kept) a1), (16, D (RInt .i64) (List.length a1 : Int)), (17, D (RInt .i64) s62)]) (fun s62=>[(1, Box R_api_Join 43 a0)]) _ ?_ _ hl55 ml
   intro v31 r61 _ hs58 hB59 hE60
   try dsimp only at hs58
   refine sr<|js (qh ot ot)<|nt<|cs<|cn ot hs58 (fun hc67 hs58=>?_) fun hc67 hs58=>?_
   ·obtain ⟨hb68,hs58⟩ :=og hs58
    obtain ⟨hb72,hs58⟩ :=og hs58
    obtain ⟨x76,hx77,hs58⟩ :=ob hs58
    obtain ⟨hb82,hs58⟩ :=og hs58
    obtain ⟨x86,hx87,hs58⟩ :=ob hs58
    refine ck<|tn<|cs<|cb<|sr<|js (qa ot)<|js (qj ot ot u125 ty153 hb68)<|js (qi ot ty153)<|js (qp (i:=4) zero153)<|js (qb ot)<|js (qo ot ot ty153)<|nt<|cs<|cd mixed (db [2] [1] [] (gu (qn ot ty43))<|db [6] [4] [] (gu (qn ot ty153))<|da [22,23] (gu (qe oF (join_fits_con a0 (nth a1 v31) _ rfl) call231 (zc (zo ot) (zc (zo ot) zn))))<|da [24] (gu (qr ot))<|da [25] (gu (qa ot))<|da [26,1] (gg fun hg69=>qa ot)<|da [26,5] (gg fun hg70=>qa ot)<|da [26,27,28] (gg fun hg71=>qZ (ow hg71) (ow hg71) u125 ty153 (hb72 hg71))<|da [26,6] (gg fun hg73=>qc (off:=2) ot (fp pl153))<|db [26,30] [4] [] (gg fun hg74=>qd (get:=fun d => api_Kept.At d) (ow hg74) fo_api_Kept_2 ty3)<|da [26,29,31] (gg fun hg75=>qe oF (join_early_con (List.take (Int.toNat v31) a1) (api_Kept.At (nth a1 v31)) _ (of_pos hg75 hx77)) call232 (zc (zo (ow hg75)) (zc (zo (ow hg75)) zn)))<|da [26,32] (gu (qm ot (fun hk78 => ow hk78)))<|da [33] (gu (qa ot))<|da [34,1] (gg fun hg79=>qa ot)<|da [34,5] (gg fun hg80=>qa ot)<|da [34,35,36] (gg fun hg81=>qZ (ow hg81) (ow hg81) u125 ty153 (hb82 hg81))<|da [34,6] (gg fun hg83=>qc (off:=1) ot (fp pl153))<|db [34,38] [4] [] (gg fun hg84=>qd (get:=fun d => api_Kept.Id d) (ow hg84) fo_api_Kept_1 ty46)<|da [34,37,39] (gg fun hg85=>qe oF (join_there_con (List.take (Int.toNat v31) a1) (api_Kept.Id (nth a1 v31)) _ (of_pos hg85 hx87)) call233 (zc (zo (ow hg85)) (zc (zo (ow hg85)) zn)))<|da [34,40] (gu (qm ot (fun hk88 => ow hk88)))<|an)<|jv [1,2,15,16,17,41] [1] ?_
    refine nt<|cn ot hs58 (fun hc89 hs58=>?_) fun hc89 hs58=>?_
    ·cases hs58
     cases (hE60 _ rfl)
     cases hm
     exact sr<|js (qb oi)<|nt<|ct<|br<|tr<|tr<|br<|tr<|tr<|JE.retA rfl (RvOK.tmp rfl)
    ·cases hs58
     exact ck<|bn<|tn<|cr<|js (qk ot oi)<|js (qa ot)<|jn<|mt (hB59 _ rfl)
   ·cases hs58
    cases (hE60 _ rfl)
    exact cx<|tx<|tx<|bx<|mt (hK56 _ rfl)
theorem inst_Check_con (a0) (a1) (r) (hm : inst_Check a0 a1 = some r) : PC 200 [D R_api_Join a0,D (RSlice R_api_Inst) a1] (D (RInt .i64) r) := by
 refine PI func200 fun w O=>?_
 unfold inst_Check at hm
 obtain ⟨x1,hx2,hm⟩ :=ob hm
 refine sr<|js (qq (i:=1) ot)<|js (qb oi)<|nt<|cs<|sr<|js (qn ot ty43)<|js (qe oF (join_May_con a0 _ hx2) call146 (ze zn))<|js (qr ot)<|js (qa ot)<|jg (fun hg3=>qa ot)<|jg (fun hg4=>qf (ow hg4) u64)<|jg (fun hg5=>qs (ow hg5) oi)<|js (qm ot (fun hk6 => ow hk6))<|nt<|cn ot hm (fun hc7 hm=>?_) fun hc7 hm=>?_
 ·cases hm
  exact sr<|js (qb oi)<|nt<|ct<|tr<|JE.retA rfl (RvOK.tmp rfl)
 ·obtain ⟨e120,hl118,hm⟩ :=ob hm
  refine ck<|tn<|sr<|js (vu (j:=2) (κ:=Int) (kv:=(intV .u64)))<|js (qb ot)<|nt<|cs<|sr<|js (qa ot)<|js (qf ot u64)<|js (qa oi)<|nt<|JC.joinS e120 (fun s126=>[]) (fun s126=>[]) (fun s126 he=>?_) (fun _ hK119=>?_)
  ·cases he
   try dsimp only at hm
   cases hm
   exact tn<|sr<|js (qb oi)<|nt<|ct<|JE.retA rfl (RvOK.tmp rfl)
  ·refine cb<|JC.loop _ (fun s125=>[(1, D (RSlice R_api_Inst) a1), (2, BP 1 0), (5, OS 2), (21, D (RSlice R_api_Inst) a1), (22, D (RInt .i64) (List.length a1 : Int)), (23, D (RInt .i64) s125.1)]) (fun s125=>[(1, Box R_api_Join 43 a0), (2, MapE (intV .u64) (mD (RInt .i64) s125.2))]) _ ?_ _ hl118 ml
   intro s125 r124 _ hs121 hB122 hE123
   obtain ⟨v62, v63⟩ := s125
   try dsimp only at hs121
   refine sr<|js (qh ot ot)<|nt<|cs<|cn ot hs121 (fun hc127 hs121=>?_) fun hc127 hs121=>?_
   ·obtain ⟨hb128,hs121⟩ :=og hs121
    obtain ⟨hb136,hs121⟩ :=og hs121
    refine ck<|tn<|cs<|cb<|sr<|js (qa ot)<|js (qj ot ot u64 ty127 hb128)<|js (qi ot ty127)<|js (qp (i:=11) zero127)<|js (qb ot)<|js (qo ot ot ty127)<|nt<|cs<|cs<|cd mixed (da [7] (gu (qc (off:=0) ot (fp pl127)))<|db [28] [11] [] (gu (qd (get:=fun d => api_Inst.Key d) ot fo_api_Inst_0 ty118))<|da [29] (gu (qe oF (val_May_con (api_Inst.Key (nth a1 v62)) _ rfl) call203 (zc (zo ot) zn)))<|da [30] (gu (qr ot))<|da [31] (gu (qa ot))<|da [32,6] (gg fun hg129=>qa ot)<|da [32,33] (gg fun hg130=>qs (ow hg130) oi)<|da [32,34] (gg fun hg131=>qa (ow hg131))<|da [35,1] (gh fun hg132=>qa ot)<|da [35,6] (gh fun hg133=>qa ot)<|da [35,37] (gh fun hg134=>qE (ow hg134) oi)<|da [35,36,38] (gh fun hg135=>qj (ow hg135) (ow hg135) u64 ty127 (hb136 hg135))<|da [35,39] (gh fun hg137=>qx (ow hg137) (fp pl127) fo_api_Inst_0)<|da [35,40] (gh fun hg138=>qi (ow hg138) ty118)<|da [35,7] (gh fun hg139=>qc (off:=0) ot (fp pl127))<|db [35,42] [11] [] (gh fun hg140=>qd (get:=fun d => api_Inst.Key d) (ow hg140) fo_api_Inst_0 ty118)<|da [35,41,43] (gh fun hg141=>qe oF (val_Order_con (api_Inst.Key (nth a1 (IntKind.i64.wrap (v62 - (1 : Int))))) (api_Inst.Key (nth a1 v62)) _ rfl) call218 (zc (zo (ow hg141)) (zc (zo (ow hg141)) zn)))<|da [35,44] (gh fun hg142=>qI (ow hg142) oi)<|da [32,35,45] (gg fun hg143=>ql (ow hg143) (fun hk144 => ow (And.intro hg143 hk144)))<|da [32,46] (gu (qm ot (fun hk145 => ow hk145)))<|an)<|jv [1,2,5,6,7,21,22,23,47] [1,2,11] ?_
    refine nt<|cn ot hs121 (fun hc146 hs121=>?_) fun hc146 hs121=>?_
    ·cases hs121
     cases (hE123 _ rfl)
     cases hm
     exact sr<|js (qb oi)<|nt<|ct<|tr<|br<|tr<|tr<|br<|tr<|tr<|JE.retA rfl (RvOK.tmp rfl)
    ·obtain ⟨x151,hx152,hs121⟩ :=ob hs121
     refine ck<|tn<|cs<|sr<|js (qc ot (fp pl127))<|js (qd ot fo_api_Inst_1 ty125)<|js (qf ot u125)<|js (qy ot oi)<|js (qa ot)<|jg (fun hg147=>qn ot ty43)<|jg (fun hg148=>qc ot (fp pl127))<|jg (fun hg149=>qd (ow hg149) fo_api_Inst_1 ty125)<|jg (fun hg150=>qe oF (join_Check_con a0 (api_Inst.L (nth a1 v62)) _ (of_pos hg150 hx152)) call219 (zc (zo (ow hg150)) (zc (zo (ow hg150)) zn)))<|jg (fun hg153=>qw (ow hg153) oi)<|js (qm ot (fun hk154 => ow hk154))<|nt<|cn ot hs121 (fun hc155 hs121=>?_) fun hc155 hs121=>?_
     ·cases hs121
      cases (hE123 _ rfl)
      cases hm
      exact sr<|js (qb oi)<|nt<|ct<|tr<|br<|tr<|tr<|br<|tr<|tr<|JE.retA rfl (RvOK.tmp rfl)
     ·obtain ⟨e169,hl167,hs121⟩ :=ob hs121
      refine ck<|tn<|sr<|js (qc ot (fp pl127))<|js (qd ot fo_api_Inst_1 ty125)<|js (qf ot u125)<|js (qa oi)<|nt<|JC.joinS e169 (fun s175=>[(1, D (RSlice R_api_Inst) a1), (2, BP 1 0), (5, OS 2), (21, D (RSlice R_api_Inst) a1), (22, D (RInt .i64) (List.length a1 : Int)), (23, D (RInt .i64) v62)]) (fun s175=>[(1, Box R_api_Join 43 a0), (2, MapE (intV .u64) (mD (RInt .i64) s175))]) (fun v166 he=>?_) (fun _ hK168=>?_)
      ·cases he
       try dsimp only at hs121
       cases hs121
       exact bn<|tn<|cr<|js (qk ot oi)<|js (qa ot)<|jn<|mt (hB122 _ rfl)
      ·refine cb<|JC.loop _ (fun s174=>[(1, D (RSlice R_api_Inst) a1), (2, BP 1 0), (5, OS 2), (6, D (RInt .i64) v62), (21, D (RSlice R_api_Inst) a1), (22, D (RInt .i64) (List.length a1 : Int)), (23, D (RInt .i64) v62), (60, D (RSlice R_api_Kept) (api_Inst.L (nth a1 v62))), (61, D (RInt .i64) (List.length (api_Inst.L (nth a1 v62)) : Int)), (62, D (RInt .i64) s174.1)]) (fun s174=>[(1, Box R_api_Join 43 a0), (2, MapE (intV .u64) (mD (RInt .i64) s174.2))]) _ ?_ _ hl167 ml
       intro s174 r173 _ hs170 hB171 hE172
       obtain ⟨v160, v161⟩ := s174
       try dsimp only at hs170
       refine sr<|js (qh ot ot)<|nt<|cs<|cn ot hs170 (fun hc176 hs170=>?_) fun hc176 hs170=>?_
       ·obtain ⟨hb177,hs170⟩ :=og hs170
        refine ck<|tn<|cs<|cb<|sr<|js (qj ot ot u125 ty153 hb177)<|js (qi ot ty153)<|js (qp (i:=14) zero153)<|js (qo ot ot ty153)<|nt<|cs<|sr<|js (qa ot)<|js (qc ot (fp pl153))<|js (qd ot fo_api_Kept_1 ty46)<|js (vG ot ot u288 (KeyOK.int u46) zero3)<|js (qa ot)<|js (qu ot)<|js (qu ot)<|js (qb ot)<|js (qb ot)<|nt<|sr<|js (qa ot)<|nt<|cn ot hs170 (fun hc178 hs170=>?_) fun hc178 hs170=>?_
        ·cases hs170
         cases (hE172 _ rfl)
         cases hs121
         cases (hE123 _ rfl)
         cases hm
         exact sr<|js (qb oi)<|nt<|ct<|tr<|br<|tr<|tr<|br<|tr<|br<|tr<|tr<|br<|tr<|tr<|JE.retA rfl (RvOK.tmp rfl)
        ·obtain ⟨hb179,hs170⟩ :=og hs170
         cases hs170
         exact ck<|tn<|cr<|js (qa ot)<|js (qc ot (fp pl153))<|js (qd ot fo_api_Kept_1 ty46)<|js (qa ot)<|js (vF (.inr rfl) ot ot ot u288 (KeyOK.int u46) hb179)<|jn<|bn<|tn<|cr<|js (qk ot oi)<|js (qa ot)<|jn<|mt (hB171 _ rfl)
       ·cases hs170
        cases (hE172 _ rfl)
        exact cx<|tx<|tx<|bx<|mt (hK168 _ rfl)
   ·cases hs121
    cases (hE123 _ rfl)
    exact cx<|tx<|tx<|bx<|mt (hK119 _ rfl)
theorem route_mayWait_con (a0) (a1) (r) (hm : route_mayWait a0 a1 = some r) : PC 167 [D R_api_Sub a0,D (RInt .i64) a1] (D RBool r) := by
 refine PI func167 fun w O=>?_
 unfold route_mayWait at hm
 obtain ⟨x1,hx2,hm⟩ :=ob hm
 refine sr<|js (qq (i:=1) ot)<|js (qb oB)<|nt<|cs<|sr<|js (qc ot (fp pl66))<|js (qc ot (fp pl45))<|js (qd ot (FieldOf.comp fo_api_Sub_0 fo_api_Def_4) ty43)<|js (qc ot (fp pl66))<|js (qd ot fo_api_Sub_2 ty64)<|js (qe oF (inst_Check_con (api_Def.J (api_Sub.D a0)) (api_Sub.Insts a0) _ hx2) call200 (ze (ze zn)))<|js (qw ot oi)<|nt<|cn ot hm (fun hc3 hm=>?_) fun hc3 hm=>?_
 ·cases hm
  exact sr<|js (qb oB)<|nt<|ct<|tr<|JE.retA rfl (RvOK.tmp rfl)
 ·obtain ⟨e123,hl121,hm⟩ :=ob hm
  refine ck<|tn<|cs<|sr<|js (qc ot (fp pl66))<|js (qd ot fo_api_Sub_2 ty64)<|js (qf ot u64)<|js (qa oi)<|nt<|JC.joinS e123 (fun s129=>[]) (fun s129=>[]) (fun s129 he=>?_) (fun _ hK122=>?_)
  ·cases he
   try dsimp only at hm
   cases hm
   exact tn<|sr<|js (qb oB)<|nt<|ct<|JE.retA rfl (RvOK.tmp rfl)
  ·refine cb<|JC.loop _ (fun s128=>[(1, D (RInt .i64) a1), (2, BP 1 0), (17, D (RSlice R_api_Inst) (api_Sub.Insts a0)), (18, D (RInt .i64) (List.length (api_Sub.Insts a0) : Int)), (19, D (RInt .i64) s128)]) (fun s128=>[(1, Box R_api_Sub 66 a0)]) _ ?_ _ hl121 ml
   intro v62 r127 _ hs124 hB125 hE126
   try dsimp only at hs124
   refine sr<|js (qh ot ot)<|nt<|cs<|cn ot hs124 (fun hc130 hs124=>?_) fun hc130 hs124=>?_
   ·obtain ⟨hb131,hs124⟩ :=og hs124
    obtain ⟨e165,hl163,hs124⟩ :=ob hs124
    refine ck<|tn<|cs<|cb<|sr<|js (qj ot ot u64 ty127 hb131)<|js (qi ot ty127)<|js (qp (i:=10) zero127)<|js (qo ot ot ty127)<|nt<|sr<|js (qc ot (fp pl127))<|js (qd ot fo_api_Inst_1 ty125)<|js (qf ot u125)<|js (qa oi)<|nt<|JC.joinS e165 (fun s171=>[(1, D (RInt .i64) a1), (2, BP 1 0), (17, D (RSlice R_api_Inst) (api_Sub.Insts a0)), (18, D (RInt .i64) (List.length (api_Sub.Insts a0) : Int)), (19, D (RInt .i64) v62)]) (fun s171=>[(1, Box R_api_Sub 66 a0)]) (fun s171 he=>?_) (fun _ hK164=>?_)
    ·cases he
     try dsimp only at hs124
     cases hs124
     exact bn<|tn<|cr<|js (qk ot oi)<|js (qa ot)<|jn<|mt (hB125 _ rfl)
    ·refine cb<|JC.loop _ (fun s170=>[(1, D (RInt .i64) a1), (2, BP 1 0), (17, D (RSlice R_api_Inst) (api_Sub.Insts a0)), (18, D (RInt .i64) (List.length (api_Sub.Insts a0) : Int)), (19, D (RInt .i64) v62), (24, D (RSlice R_api_Kept) (api_Inst.L (nth (api_Sub.Insts a0) v62))), (25, D (RInt .i64) (List.length (api_Inst.L (nth (api_Sub.Insts a0) v62)) : Int)), (26, D (RInt .i64) s170)]) (fun s170=>[(1, Box R_api_Sub 66 a0)]) _ ?_ _ hl163 ml
     intro v147 r169 _ hs166 hB167 hE168
     try dsimp only at hs166
     refine sr<|js (qh ot ot)<|nt<|cs<|cn ot hs166 (fun hc172 hs166=>?_) fun hc172 hs166=>?_
     ·obtain ⟨hb173,hs166⟩ :=og hs166
      refine ck<|tn<|cs<|cb<|sr<|js (qj ot ot u125 ty153 hb173)<|js (qi ot ty153)<|js (qp (i:=13) zero153)<|js (qo ot ot ty153)<|nt<|sr<|js (qc ot (fp pl153))<|js (qd ot fo_api_Kept_1 ty46)<|js (qh ot oi)<|js (qa ot)<|jg (fun hg174=>qc ot (fp pl153))<|jg (fun hg175=>qd (ow hg175) fo_api_Kept_1 ty46)<|jg (fun hg176=>qc ot (fp pl66))<|jg (fun hg177=>qd (ow hg177) fo_api_Sub_4 ty3)<|jg (fun hg178=>qA (ow hg178) u3 u46)<|jg (fun hg179=>qs (ow hg179) (ow hg179))<|js (qm ot (fun hk180 => ow hk180))<|js (qa ot)<|jg (fun hg181=>qc ot (fp pl153))<|jg (fun hg182=>qd (ow hg182) fo_api_Kept_2 ty3)<|jg (fun hg183=>qa ot)<|jg (fun hg184=>qs (ow hg184) (ow hg184))<|js (qm ot (fun hk185 => ow hk185))<|nt<|cn ot hs166 (fun hc186 hs166=>?_) fun hc186 hs166=>?_
      ·cases hs166
       cases (hE168 _ rfl)
       cases hs124
       cases (hE126 _ rfl)
       cases hm
       exact sr<|js (qb oB)<|nt<|ct<|br<|tr<|tr<|br<|tr<|br<|tr<|tr<|br<|tr<|tr<|JE.retA rfl (RvOK.tmp rfl)
      ·cases hs166
       exact ck<|bn<|tn<|cr<|js (qk ot oi)<|js (qa ot)<|jn<|mt (hB167 _ rfl)
     ·cases hs166
      cases (hE168 _ rfl)
      exact cx<|tx<|tx<|bx<|mt (hK164 _ rfl)
   ·cases hs124
    cases (hE126 _ rfl)
    exact cx<|tx<|tx<|bx<|mt (hK122 _ rfl)
theorem route_maySub_con (a0) (a1) (r) (hm : route_maySub a0 a1 = some r) : PC 114 [D R_api_Router a0,D R_api_Sub a1] (D RBool r) := by
 refine PI func114 fun w O=>?_
 unfold route_maySub at hm
 obtain ⟨x8,hx9,hm⟩ :=ob hm
 obtain ⟨x16,hx17,hm⟩ :=ob hm
 obtain ⟨x21,hx22,hm⟩ :=ob hm
 obtain ⟨x28,hx29,hm⟩ :=ob hm
 cases hm
 exact sr<|js (qq (i:=1) ot)<|js (qq (i:=2) ot)<|js (qb oB)<|nt<|sr<|js (qc ot (fp pl66))<|js (qd ot fo_api_Sub_3 ty3)<|js (qI ot oi)<|js (qa ot)<|jg (fun hg1=>qc ot (fp pl66))<|jg (fun hg2=>qd (ow hg2) fo_api_Sub_3 ty3)<|jg (fun hg3=>qh (ow hg3) oi)<|js (ql ot (fun hk4 => ow hk4))<|js (qa ot)<|jg (fun hg5=>qc ot (fp pl66))<|jg (fun hg6=>qd (ow hg6) fo_api_Sub_0 ty45)<|jg (fun hg7=>qe oF (offs_May_con (api_Sub.D a1) _ (of_pos hg7 hx9)) call101 (zc (zo (ow hg7)) zn))<|js (ql ot (fun hk10 => ow hk10))<|js (qa ot)<|jg (fun hg11=>qc ot (fp pl66))<|jg (fun hg12=>qd (ow hg12) fo_api_Sub_1 ty63)<|jg (fun hg13=>qc ot (fp pl28))<|jg (fun hg14=>qd (ow hg14) fo_api_Router_1 ty22)<|jg (fun hg15=>qe oF (route_read_con (api_Sub.Offs a1) (api_Router.Topics a0) _ (of_pos hg15 hx17)) call165 (zc (zo (ow hg15)) (zc (zo (ow hg15)) zn)))<|js (ql ot (fun hk18 => ow hk18))<|js (qa ot)<|jg (fun hg19=>qn ot ty66)<|jg (fun hg20=>qe oF (route_counted_con a1 _ (of_pos hg20 hx22)) call166 (zc (zo (ow hg20)) zn))<|js (ql ot (fun hk23 => ow hk23))<|js (qa ot)<|jg (fun hg24=>qn ot ty66)<|jg (fun hg25=>qc ot (fp pl28))<|jg (fun hg26=>qd (ow hg26) fo_api_Router_0 ty3)<|jg (fun hg27=>qe oF (route_mayWait_con a1 (api_Router.Now a0) _ (of_pos hg27 hx29)) call167 (zc (zo (ow hg27)) (zc (zo (ow hg27)) zn)))<|js (ql ot (fun hk30 => ow hk30))<|js (qb ot)<|nt<|ct<|JE.retA rfl (RvOK.tmp rfl)
theorem route_maySubs_con (a0) (r) (hm : route_maySubs a0 = some r) : PC 60 [D R_api_Router a0] (D RBool r) := by
 refine PI func60 fun w O=>?_
 unfold route_maySubs at hm
 refine sr<|js (qq (i:=1) ot)<|js (qb oB)<|nt<|cs<|sr<|js (qc ot (fp pl28))<|js (qd ot fo_api_Router_3 ty24)<|js (qf ot u24)<|js (qs ot oi)<|nt<|cn ot hm (fun hc1 hm=>?_) fun hc1 hm=>?_
 ·cases hm
  exact sr<|js (qb oB)<|nt<|ct<|tr<|JE.retA rfl (RvOK.tmp rfl)
 ·obtain ⟨e53,hl51,hm⟩ :=ob hm
  refine ck<|tn<|cs<|sr<|js (qc ot (fp pl28))<|js (qd ot fo_api_Router_3 ty24)<|js (qf ot u24)<|js (qa oi)<|nt<|JC.joinS e53 (fun s59=>[]) (fun s59=>[]) (fun s59 he=>?_) (fun _ hK52=>?_)
  ·cases he
   try dsimp only at hm
   cases hm
   exact tn<|sr<|js (qb oB)<|nt<|ct<|JE.retA rfl (RvOK.tmp rfl)
  ·refine cb<|JC.loop _ (fun s58=>[(1, BP 1 0), (10, D (RSlice R_api_Sub) (api_Router.Subs a0)), (11, D (RInt .i64) (List.length (api_Router.Subs a0) : Int)), (12, D (RInt .i64) s58)]) (fun s58=>[(1, Box R_api_Router 28 a0)]) _ ?_ _ hl51 ml
   intro v26 r57 _ hs54 hB55 hE56
   try dsimp only at hs54
   refine sr<|js (qh ot ot)<|nt<|cs<|cn ot hs54 (fun hc60 hs54=>?_) fun hc60 hs54=>?_
   ·obtain ⟨hb61,hs54⟩ :=og hs54
    obtain ⟨x62,hx63,hs54⟩ :=ob hs54
    obtain ⟨hb72,hs54⟩ :=og hs54
    refine ck<|tn<|cs<|cb<|sr<|js (qa ot)<|js (qj ot ot u24 ty66 hb61)<|js (qi ot ty66)<|js (qp (i:=4) zero66)<|js (qb ot)<|js (qo ot ot ty66)<|nt<|cs<|cd mixed (db [1] [1] [] (gu (qn ot ty28))<|db [4] [4] [] (gu (qn ot ty66))<|da [17,18] (gu (qe oF (route_maySub_con a0 (nth (api_Router.Subs a0) v26) _ hx63) call114 (zc (zo ot) (zc (zo ot) zn))))<|da [19] (gu (qr ot))<|da [20] (gu (qa ot))<|da [21,3] (gg fun hg64=>qa ot)<|da [21,22] (gg fun hg65=>qs (ow hg65) oi)<|da [21,23] (gg fun hg66=>qa (ow hg66))<|da [24,1] (gh fun hg67=>qc (off:=3) ot (fp pl28))<|db [24,25] [1] [] (gh fun hg68=>qd (get:=fun d => api_Router.Subs d) (ow hg68) fo_api_Router_3 ty24)<|da [24,3] (gh fun hg69=>qa ot)<|da [24,27] (gh fun hg70=>qE (ow hg70) oi)<|da [24,26,28] (gh fun hg71=>qj (ow hg71) (ow hg71) u24 ty66 (hb72 hg71))<|da [24,29] (gh fun hg73=>qx (ow hg73) (fp pl66) fo_api_Sub_0)<|da [24,30] (gh fun hg74=>qx (ow hg74) (fp pl45) fo_api_Def_0)<|da [24,31] (gh fun hg75=>qi (ow hg75) ty9)<|da [24,4] (gh fun hg76=>qc (off:=0) ot (fp pl66))<|da [24,33] (gh fun hg77=>qc (off:=0) (ow hg77) (fp pl45))<|db [24,34] [4] [] (gh fun hg78=>qd (get:=fun d => api_Def.Name (api_Sub.D d)) (ow hg78) (FieldOf.comp fo_api_Sub_0 fo_api_Def_0) ty9)<|da [24,32,35] (gh fun hg79=>qY (ow hg79) (ow hg79))<|da [21,24,36] (gg fun hg80=>ql (ow hg80) (fun hk81 => ow (And.intro hg80 hk81)))<|da [21,37] (gu (qm ot (fun hk82 => ow hk82)))<|an)<|jv [1,10,11,12,38] [1] ?_
    refine nt<|cn ot hs54 (fun hc83 hs54=>?_) fun hc83 hs54=>?_
    ·cases hs54
     cases (hE56 _ rfl)
     cases hm
     exact sr<|js (qb oB)<|nt<|ct<|br<|tr<|tr<|br<|tr<|tr<|JE.retA rfl (RvOK.tmp rfl)
    ·cases hs54
     exact ck<|bn<|tn<|cr<|js (qk ot oi)<|js (qa ot)<|jn<|mt (hB55 _ rfl)
   ·cases hs54
    cases (hE56 _ rfl)
    exact cx<|tx<|tx<|bx<|mt (hK52 _ rfl)
theorem outbox_at_con (a0) (r) (hm : outbox_at a0 = r) : PC 201 [D (RInt .i64) a0] (D RBool r) := by
 refine PI func201 fun w O=>?_
 unfold outbox_at at hm
 cases hm
 exact sr<|js (qb oB)<|nt<|sr<|js (qa ot)<|js (qI ot oi)<|js (qa ot)<|jg (fun hg1=>qa ot)<|jg (fun hg2=>qN (ow hg2) oi)<|js (ql ot (fun hk3 => ow hk3))<|js (qb ot)<|nt<|ct<|JE.retA rfl (RvOK.tmp rfl)
theorem outbox_may_con (a0) (r) (hm : outbox_may a0 = some r) : PC 168 [D R_api_Out a0] (D RBool r) := by
 refine PI func168 fun w O=>?_
 unfold outbox_may at hm
 obtain ⟨x4,hx5,hm⟩ :=ob hm
 cases hm
 exact sr<|js (qq (i:=1) ot)<|js (qb oB)<|nt<|sr<|js (qc ot (fp pl88))<|js (qd ot fo_api_Out_0 ty46)<|js (qI ot oi)<|js (qa ot)<|jg (fun hg1=>qc ot (fp pl88))<|jg (fun hg2=>qd (ow hg2) fo_api_Out_1 ty9)<|jg (fun hg3=>qe oF (event_Field_con (api_Out.Sub a0) _ (of_pos hg3 hx5)) call113 (zc (zo (ow hg3)) zn))<|js (ql ot (fun hk6 => ow hk6))<|js (qa ot)<|jg (fun hg7=>qc ot (fp pl88))<|jg (fun hg8=>qd (ow hg8) fo_api_Out_2 ty86)<|jg (fun hg9=>qf (ow hg9) u86)<|jg (fun hg10=>qI (ow hg10) oi)<|js (ql ot (fun hk11 => ow hk11))<|js (qa ot)<|jg (fun hg12=>qc ot (fp pl88))<|jg (fun hg13=>qd (ow hg13) fo_api_Out_2 ty86)<|jg (fun hg14=>qf (ow hg14) u86)<|jg (fun hg15=>qN (ow hg15) oi)<|js (ql ot (fun hk16 => ow hk16))<|js (qa ot)<|jg (fun hg17=>qc ot (fp pl88))<|jg (fun hg18=>qd (ow hg18) fo_api_Out_3 ty3)<|jg (fun hg19=>qI (ow hg19) oi)<|js (ql ot (fun hk20 => ow hk20))<|js (qa ot)<|jg (fun hg21=>qc ot (fp pl88))<|jg (fun hg22=>qd (ow hg22) fo_api_Out_3 ty3)<|jg (fun hg23=>qh (ow hg23) oi)<|js (ql ot (fun hk24 => ow hk24))<|js (qa ot)<|jg (fun hg25=>qc ot (fp pl88))<|jg (fun hg26=>qd (ow hg26) fo_api_Out_4 ty3)<|jg (fun hg27=>qe oF (outbox_at_con (api_Out.Due a0) _ rfl) call201 (zc (zo (ow hg27)) zn))<|js (ql ot (fun hk28 => ow hk28))<|js (qb ot)<|nt<|ct<|JE.retA rfl (RvOK.tmp rfl)
theorem outbox_Check_con (a0) (r) (hm : outbox_Check a0 = some r) : PC 115 [D (RSlice R_api_Out) a0] (D (RInt .i64) r) := by
 refine PI func115 fun w O=>?_
 unfold outbox_Check at hm
 refine sr<|js (qb oi)<|nt<|cs<|sr<|js (qa ot)<|js (qf ot u25)<|js (qs ot oi)<|nt<|cn ot hm (fun hc1 hm=>?_) fun hc1 hm=>?_
 ·cases hm
  exact sr<|js (qb oi)<|nt<|ct<|tr<|JE.retA rfl (RvOK.tmp rfl)
 ·obtain ⟨e47,hl45,hm⟩ :=ob hm
  refine ck<|tn<|cs<|sr<|js (qa ot)<|js (qf ot u25)<|js (qa oi)<|nt<|JC.joinS e47 (fun s53=>[]) (fun s53=>[]) (fun s53 he=>?_) (fun _ hK46=>?_)
  ·cases he
   try dsimp only at hm
   cases hm
   exact tn<|sr<|js (qb oi)<|nt<|ct<|JE.retA rfl (RvOK.tmp rfl)
  ·refine cb<|JC.loop _ (fun s52=>[(0, D (RSlice R_api_Out) a0), (8, D (RSlice R_api_Out) a0), (9, D (RInt .i64) (List.length a0 : Int)), (10, D (RInt .i64) s52)]) (fun s52=>[]) _ ?_ _ hl45 ml
   intro v23 r51 _ hs48 hB49 hE50
   try dsimp only at hs48
   refine sr<|js (qh ot ot)<|nt<|cs<|cn ot hs48 (fun hc54 hs48=>?_) fun hc54 hs48=>?_
   ·obtain ⟨hb55,hs48⟩ :=og hs48
    obtain ⟨x56,hx57,hs48⟩ :=ob hs48
    obtain ⟨hb65,hs48⟩ :=og hs48
    refine ck<|tn<|cs<|cb<|sr<|js (qa ot)<|js (qj ot ot u25 ty88 hb55)<|js (qi ot ty88)<|js (qp (i:=3) zero88)<|js (qb ot)<|js (qo ot ot ty88)<|nt<|cs<|cd mixed (db [4] [3] [] (gu (qn ot ty88))<|da [15] (gu (qe oF (outbox_may_con (nth a0 v23) _ hx57) call168 (zc (zo ot) zn)))<|da [16] (gu (qr ot))<|da [17] (gu (qa ot))<|da [18,3] (gg fun hg58=>qa ot)<|da [18,19] (gg fun hg59=>qs (ow hg59) oi)<|da [18,20] (gg fun hg60=>qa (ow hg60))<|da [21,0] (gh fun hg61=>qa ot)<|da [21,3] (gh fun hg62=>qa ot)<|da [21,23] (gh fun hg63=>qE (ow hg63) oi)<|da [21,22,24] (gh fun hg64=>qj (ow hg64) (ow hg64) u25 ty88 (hb65 hg64))<|da [21,25] (gh fun hg66=>qx (ow hg66) (fp pl88) fo_api_Out_0)<|da [21,26] (gh fun hg67=>qi (ow hg67) ty46)<|da [21,4] (gh fun hg68=>qc (off:=0) ot (fp pl88))<|db [21,28] [3] [] (gh fun hg69=>qd (get:=fun d => api_Out.Id d) (ow hg69) fo_api_Out_0 ty46)<|da [21,27,29] (gh fun hg70=>qI (ow hg70) (ow hg70))<|da [18,21,30] (gg fun hg71=>ql (ow hg71) (fun hk72 => ow (And.intro hg71 hk72)))<|da [18,31] (gu (qm ot (fun hk73 => ow hk73)))<|an)<|jv [0,8,9,10,32] [] ?_
    refine nt<|cn ot hs48 (fun hc74 hs48=>?_) fun hc74 hs48=>?_
    ·cases hs48
     cases (hE50 _ rfl)
     cases hm
     exact sr<|js (qb oi)<|nt<|ct<|br<|tr<|tr<|br<|tr<|tr<|JE.retA rfl (RvOK.tmp rfl)
    ·cases hs48
     exact ck<|bn<|tn<|cr<|js (qk ot oi)<|js (qa ot)<|jn<|mt (hB49 _ rfl)
   ·cases hs48
    cases (hE50 _ rfl)
    exact cx<|tx<|tx<|bx<|mt (hK46 _ rfl)
theorem route_mayOut_con (a0) (r) (hm : route_mayOut a0 = some r) : PC 61 [D R_api_Router a0] (D RBool r) := by
 refine PI func61 fun w O=>?_
 unfold route_mayOut at hm
 obtain ⟨x4,hx5,hm⟩ :=ob hm
 obtain ⟨x11,hx12,hm⟩ :=ob hm
 refine sr<|js (qq (i:=1) ot)<|js (qb oB)<|nt<|cs<|sr<|js (qc ot (fp pl28))<|js (qd ot fo_api_Router_4 ty3)<|js (qh ot oi)<|js (qa ot)<|jg (fun hg1=>qc ot (fp pl28))<|jg (fun hg2=>qd (ow hg2) fo_api_Router_5 ty25)<|jg (fun hg3=>qe oF (outbox_Check_con (api_Router.Out a0) _ (of_pos hg3 hx5)) call115 (zc (zo (ow hg3)) zn))<|jg (fun hg6=>qw (ow hg6) oi)<|js (qm ot (fun hk7 => ow hk7))<|js (qa ot)<|jg (fun hg8=>qc ot (fp pl28))<|jg (fun hg9=>qd (ow hg9) fo_api_Router_6 ty25)<|jg (fun hg10=>qe oF (outbox_Check_con (api_Router.Given a0) _ (of_pos hg10 hx12)) call115 (zc (zo (ow hg10)) zn))<|jg (fun hg13=>qw (ow hg13) oi)<|js (qm ot (fun hk14 => ow hk14))<|nt<|cn ot hm (fun hc15 hm=>?_) fun hc15 hm=>?_
 ·cases hm
  exact sr<|js (qb oB)<|nt<|ct<|tr<|JE.retA rfl (RvOK.tmp rfl)
 ·obtain ⟨e51,hl49,hm⟩ :=ob hm
  refine ck<|tn<|cs<|sr<|js (qc ot (fp pl28))<|js (qd ot fo_api_Router_5 ty25)<|js (qc ot (fp pl28))<|js (qd ot fo_api_Router_6 ty25)<|js (vo u183 ty25 zero183 (.cons ot (.cons ot .nil)))<|js (qa oi)<|nt<|JC.joinS e51 (fun s57=>[(1, BP 1 0)]) (fun s57=>[(1, Box R_api_Router 28 a0)]) (fun s57 he=>?_) (fun _ hK50=>?_)
  ·cases he
   try dsimp only at hm
   obtain ⟨e84,hl82,hm⟩ :=ob hm
   refine tn<|sr<|js (qb oi)<|js (qb oi)<|nt<|cs<|JC.joinS e84 (fun s90=>[]) (fun s90=>[]) (fun s90 he=>?_) (fun _ hK83=>?_)
   ·cases he
    try dsimp only at hm
    cases hm
    exact tn<|sr<|js (qb oB)<|nt<|ct<|JE.retA rfl (RvOK.tmp rfl)
   ·refine cb<|JC.loop _ (fun s89=>[(1, BP 1 0), (5, D (RInt .i64) s89.1), (6, D (RInt .i64) s89.2)]) (fun s89=>[(1, Box R_api_Router 28 a0)]) _ ?_ _ hl82 ml
    intro s89 r88 _ hs85 hB86 hE87
    obtain ⟨v69, v70⟩ := s89
    try dsimp only at hs85
    refine cs<|sr<|js (qa ot)<|js (qc ot (fp pl28))<|js (qd ot fo_api_Router_5 ty25)<|js (qf ot u25)<|js (qh ot ot)<|js (qa ot)<|jg (fun hg91=>qa ot)<|jg (fun hg92=>qc ot (fp pl28))<|jg (fun hg93=>qd (ow hg93) fo_api_Router_6 ty25)<|jg (fun hg94=>qf (ow hg94) u25)<|jg (fun hg95=>qh (ow hg95) (ow hg95))<|js (ql ot (fun hk96 => ow hk96))<|nt<|cn ot hs85 (fun hc97 hs85=>?_) fun hc97 hs85=>?_
    ·obtain ⟨hb98,hs85⟩ :=og hs85
     obtain ⟨hb99,hs85⟩ :=og hs85
     refine ck<|tn<|cb<|cs<|cd mixed (da [1] (gu (qc (off:=5) ot (fp pl28)))<|db [61] [1] [] (gu (qd (get:=fun d => api_Router.Out d) ot fo_api_Router_5 ty25))<|da [5] (gu (qa ot))<|da [62,63] (gu (qj ot ot u25 ty88 hb98))<|da [64] (gu (qx ot (fp pl88) fo_api_Out_0))<|da [65] (gu (qi ot ty46))<|da [1] (gu (qc (off:=6) ot (fp pl28)))<|db [67] [1] [] (gu (qd (get:=fun d => api_Router.Given d) ot fo_api_Router_6 ty25))<|da [6] (gu (qa ot))<|da [68,69] (gu (qj ot ot u25 ty88 hb99))<|da [70] (gu (qx ot (fp pl88) fo_api_Out_0))<|da [71] (gu (qi ot ty46))<|da [66] (gu (qb ot))<|an)<|jv [1,5,6,7,72] [1] ?_
     refine js (qb ot)<|nt<|cb<|sr<|js (qa ot)<|js (qa ot)<|js (qy ot ot)<|js (qb ot)<|nt<|cn ot hs85 (fun hc100 hs85=>?_) fun hc100 hs85=>?_
     ·cases hs85
      cases (hE87 _ rfl)
      cases hm
      exact sr<|js (qb oB)<|nt<|ct<|br<|br<|tr<|br<|tr<|tr<|JE.retA rfl (RvOK.tmp rfl)
     ·refine sr<|js (qa ot)<|js (qa ot)<|js (qh ot ot)<|js (qb ot)<|nt<|cn ot hs85 (fun hc101 hs85=>?_) fun hc101 hs85=>?_
      ·cases hs85
       exact cr<|js (qa ot)<|js (qk ot oi)<|js (qb ot)<|jn<|bn<|bn<|mt (hB86 _ rfl)
      ·cases hs85
       exact cr<|js (qa ot)<|js (qk ot oi)<|js (qb ot)<|jn<|bn<|bn<|mt (hB86 _ rfl)
    ·cases hs85
     cases (hE87 _ rfl)
     exact cx<|tx<|tx<|bx<|mt (hK83 _ rfl)
  ·refine cb<|JC.loop _ (fun s56=>[(1, BP 1 0), (28, D (RArr 2 (RSlice R_api_Out)) ([api_Router.Out a0, api_Router.Given a0] : (List (List api_Out)))), (29, D (RInt .i64) s56)]) (fun s56=>[(1, Box R_api_Router 28 a0)]) _ ?_ _ hl49 ml
   intro v32 r55 _ hs52 hB53 hE54
   try dsimp only at hs52
   refine sr<|js (qh ot oi)<|nt<|cs<|cn ot hs52 (fun hc103 hs52=>?_) fun hc103 hs52=>?_
   ·obtain ⟨hb104,hs52⟩ :=og hs52
    obtain ⟨hb110,hs52⟩ :=og hs52
    refine ck<|tn<|cs<|cb<|sr<|js (vq ot ot u183 ty25 hb104)<|js (qb ot)<|nt<|cs<|cd mixed (da [4] (gu (qa ot))<|da [32] (gu (qf ot u25))<|da [33] (gu (qs ot oi))<|da [34] (gu (qa ot))<|da [35,4] (gg fun hg105=>qa ot)<|da [35,4] (gg fun hg106=>qa ot)<|da [35,37] (gg fun hg107=>qf (ow hg107) u25)<|da [35,38] (gg fun hg108=>qE (ow hg108) oi)<|da [35,36,39] (gg fun hg109=>qj (ow hg109) (ow hg109) u25 ty88 (hb110 hg109))<|da [35,40] (gg fun hg111=>qx (ow hg111) (fp pl88) fo_api_Out_0)<|da [35,41] (gg fun hg112=>qi (ow hg112) ty46)<|da [35,1] (gg fun hg113=>qc (off:=4) ot (fp pl28))<|db [35,43] [1] [] (gg fun hg114=>qd (get:=fun d => api_Router.Total d) (ow hg114) fo_api_Router_4 ty3)<|da [35,44] (gg fun hg115=>qA (ow hg115) u3 u46)<|da [35,42,45] (gg fun hg116=>qs (ow hg116) (ow hg116))<|da [35,46] (gu (ql ot (fun hk117 => ow hk117)))<|an)<|jv [1,28,29,47] [1] ?_
    refine nt<|cn ot hs52 (fun hc118 hs52=>?_) fun hc118 hs52=>?_
    ·cases hs52
     cases (hE54 _ rfl)
     cases hm
     exact sr<|js (qb oB)<|nt<|ct<|br<|tr<|tr<|br<|tr<|tr<|JE.retA rfl (RvOK.tmp rfl)
    ·cases hs52
     exact ck<|bn<|tn<|cr<|js (qk ot oi)<|js (qa ot)<|jn<|mt (hB53 _ rfl)
   ·cases hs52
    cases (hE54 _ rfl)
    exact cx<|tx<|tx<|bx<|mt (hK50 _ rfl)
theorem route_place_1_con (a0) (c0) (r) (hm : route_place_1 a0 c0 = r) : PC 174 [D R_api_Sub a0,D (RPtr RStr) c0] (D RBool r) := by
 refine PI func174 fun w O=>?_
 unfold route_place_1 at hm
 cases hm
 exact sr<|js (qq (i:=1) ot)<|js (qb oB)<|nt<|sr<|js (qc ot (fp pl66))<|js (qc ot (fp pl45))<|js (qd ot (FieldOf.comp fo_api_Sub_0 fo_api_Def_0) ty9)<|js (qi ot ty9)<|js (qz ot ot)<|js (qb ot)<|nt<|ct<|JE.retA rfl (RvOK.tmp rfl)
theorem slices_IndexFunc_api_Sub_api_Sub__route_place_1_con (a0) (a1_0) (r) (hm : slices_IndexFunc_api_Sub_api_Sub__route_place_1 a0 a1_0 = some r) : PC 173 [D (RSlice R_api_Sub) a0,FV 174 [D (RPtr RStr) a1_0]] (D (RInt .i64) r) := by
 refine PI func173 fun w O=>?_
 unfold slices_IndexFunc_api_Sub_api_Sub__route_place_1 at hm
 obtain ⟨e10,hl8,hm⟩ :=ob hm
 refine sr<|js (qb oi)<|nt<|cs<|sr<|js (qa ot)<|js (qf ot u24)<|js (qa oi)<|nt<|JC.joinS e10 (fun s16=>[]) (fun s16=>[]) (fun s16 he=>?_) (fun _ hK9=>?_)
 ·cases he
  try dsimp only at hm
  cases hm
  exact tn<|sr<|js (qb oi)<|nt<|ct<|JE.retA rfl (RvOK.tmp rfl)
 ·refine cb<|JC.loop _ (fun s15=>[(0, D (RSlice R_api_Sub) a0), (1, FV 174 [D (RPtr RStr) a1_0]), (7, D (RInt .i64) (List.length a0 : Int)), (8, D (RInt .i64) s15)]) (fun s15=>[]) _ ?_ _ hl8 ml
  intro v4 r14 _ hs11 hB12 hE13
  try dsimp only at hs11
  refine sr<|js (qh ot ot)<|nt<|cs<|cn ot hs11 (fun hc17 hs11=>?_) fun hc17 hs11=>?_
  ·obtain ⟨hb18,hs11⟩ :=og hs11
   refine ck<|tn<|cs<|cb<|sr<|js (qa ot)<|js (qb ot)<|nt<|sr<|js (qa ot)<|js (qa ot)<|js (qa ot)<|js (qj ot ot u24 ty66 hb18)<|js (qi ot ty66)<|js (qL (F:=[]) ot (route_place_1_con (nth a0 v4) a1_0 _ rfl) call174 (ze zn) (FzE.dat FzE.nil) WI.bool)<|nt<|cn ot hs11 (fun hc19 hs11=>?_) fun hc19 hs11=>?_
   ·cases hs11
    cases (hE13 _ rfl)
    cases hm
    exact sr<|js (qa ot)<|js (qb ot)<|nt<|ct<|br<|tr<|tr<|br<|tr<|tr<|JE.retA rfl (RvOK.tmp rfl)
   ·cases hs11
    exact ck<|bn<|tn<|cr<|js (qk ot oi)<|js (qa ot)<|jn<|mt (hB12 _ rfl)
  ·cases hs11
   cases (hE13 _ rfl)
   exact cx<|tx<|tx<|bx<|mt (hK9 _ rfl)
theorem route_place_con (a0) (a1) (r) (hm : route_place a0 a1 = some r) : PC 117 [D (RSlice R_api_Sub) a0,D RStr a1] (D (RInt .i64) r) := by
 refine PI func117 fun w O=>?_
 unfold route_place at hm
 obtain ⟨x1,hx2,hm⟩ :=ob hm
 cases hm
 exact sr<|js (qq (i:=1) ot)<|js (qb oi)<|nt<|sr<|js (qa ot)<|js (qR (Caps.cons ot (Caps.nil (xs := []))))<|js (qL (F:=[1]) oF (slices_IndexFunc_api_Sub_api_Sub__route_place_1_con a0 a1 _ hx2) call173 (ze (zc (OpdF.fv ot (FzE.bp rfl FieldOf.self rfl FzE.nil)) zn)) FzE.nil WI.int)<|js (qb ot)<|nt<|ct<|JE.retA rfl (RvOK.tmp rfl)
theorem route_mayDead_con (a0) (r) (hm : route_mayDead a0 = some r) : PC 62 [D R_api_Router a0] (D RBool r) := by
 refine PI func62 fun w O=>?_
 unfold route_mayDead at hm
 refine sr<|js (qq (i:=1) ot)<|js (qb oB)<|nt<|cs<|sr<|js (qc ot (fp pl28))<|js (qd ot fo_api_Router_7 ty26)<|js (qf ot u26)<|js (qs ot oi)<|nt<|cn ot hm (fun hc1 hm=>?_) fun hc1 hm=>?_
 ·cases hm
  exact sr<|js (qb oB)<|nt<|ct<|tr<|JE.retA rfl (RvOK.tmp rfl)
 ·obtain ⟨e45,hl43,hm⟩ :=ob hm
  refine ck<|tn<|cs<|sr<|js (qc ot (fp pl28))<|js (qd ot fo_api_Router_7 ty26)<|js (qf ot u26)<|js (qa oi)<|nt<|JC.joinS e45 (fun s51=>[]) (fun s51=>[]) (fun s51 he=>?_) (fun _ hK44=>?_)
  ·cases he
   try dsimp only at hm
   cases hm
   exact tn<|sr<|js (qb oB)<|nt<|ct<|JE.retA rfl (RvOK.tmp rfl)
  ·refine cb<|JC.loop _ (fun s50=>[(1, BP 1 0), (13, D (RSlice R_api_Dead) (api_Router.Dead a0)), (14, D (RInt .i64) (List.length (api_Router.Dead a0) : Int)), (15, D (RInt .i64) s50)]) (fun s50=>[(1, Box R_api_Router 28 a0)]) _ ?_ _ hl43 ml
   intro v22 r49 _ hs46 hB47 hE48
   try dsimp only at hs46
   refine sr<|js (qh ot ot)<|nt<|cs<|cn ot hs46 (fun hc52 hs46=>?_) fun hc52 hs46=>?_
   ·obtain ⟨hb53,hs46⟩ :=og hs46
    obtain ⟨x54,hx55,hs46⟩ :=ob hs46
    obtain ⟨x67,hx68,hs46⟩ :=ob hs46
    refine ck<|tn<|cs<|cb<|sr<|js (qj ot ot u26 ty72 hb53)<|js (qi ot ty72)<|js (qp (i:=6) zero72)<|js (qo ot ot ty72)<|nt<|sr<|js (qc ot (fp pl72))<|js (qd ot fo_api_Dead_1 ty9)<|js (qe oF (event_Take_con (api_Dead.E (nth (api_Router.Dead a0) v22)) _ hx55) call116 (ze zn))<|js (qa ot)<|js (qu ot)<|js (qu ot)<|js (qu ot)<|js (qp (i:=7) zero92)<|js (qo ot ot ty92)<|js (qb ot)<|js (qb ot)<|nt<|sr<|js (qa ot)<|js (qw ot oi)<|js (qa ot)<|jg (fun hg56=>qa ot)<|jg (fun hg57=>qc ot (fp pl72))<|jg (fun hg58=>qd (ow hg58) fo_api_Dead_1 ty9)<|jg (fun hg59=>qD (ow hg59) u9)<|jg (fun hg60=>qw (ow hg60) (ow hg60))<|js (qm ot (fun hk61 => ow hk61))<|js (qa ot)<|jg (fun hg62=>qc ot (fp pl28))<|jg (fun hg63=>qd (ow hg63) fo_api_Router_3 ty24)<|jg (fun hg64=>qc ot (fp pl72))<|jg (fun hg65=>qd (ow hg65) fo_api_Dead_0 ty9)<|jg (fun hg66=>qe oF (route_place_con (api_Router.Subs a0) (api_Dead.Sub (nth (api_Router.Dead a0) v22)) _ (of_pos hg66 hx68)) call117 (zc (zo (ow hg66)) (zc (zo (ow hg66)) zn)))<|jg (fun hg69=>qh (ow hg69) oi)<|js (qm ot (fun hk70 => ow hk70))<|nt<|cn ot hs46 (fun hc71 hs46=>?_) fun hc71 hs46=>?_
    ·cases hs46
     cases (hE48 _ rfl)
     cases hm
     exact sr<|js (qb oB)<|nt<|ct<|br<|tr<|tr<|br<|tr<|tr<|JE.retA rfl (RvOK.tmp rfl)
    ·cases hs46
     exact ck<|bn<|tn<|cr<|js (qk ot oi)<|js (qa ot)<|jn<|mt (hB47 _ rfl)
   ·cases hs46
    cases (hE48 _ rfl)
    exact cx<|tx<|tx<|bx<|mt (hK44 _ rfl)
theorem route_Check_con (a0) (r) (hm : route_Check a0 = some r) : PC 25 [D R_api_Router a0] (D (RInt .i64) r) := by
 refine PI func25 fun w O=>?_
 unfold route_Check at hm
 obtain ⟨x8,hx9,hm⟩ :=ob hm
 obtain ⟨x15,hx16,hm⟩ :=ob hm
 refine sr<|js (qq (i:=1) ot)<|js (qb oi)<|nt<|cs<|sr<|js (qc ot (fp pl28))<|js (qd ot fo_api_Router_0 ty3)<|js (qh ot oi)<|js (qa ot)<|jg (fun hg1=>qc ot (fp pl28))<|jg (fun hg2=>qd (ow hg2) fo_api_Router_0 ty3)<|jg (fun hg3=>qs (ow hg3) oi)<|js (qm ot (fun hk4 => ow hk4))<|js (qa ot)<|jg (fun hg5=>qc ot (fp pl28))<|jg (fun hg6=>qd (ow hg6) fo_api_Router_1 ty22)<|jg (fun hg7=>qe oF (topic_Check_con (api_Router.Topics a0) _ (of_pos hg7 hx9)) call58 (zc (zo (ow hg7)) zn))<|jg (fun hg10=>qw (ow hg10) oi)<|js (qm ot (fun hk11 => ow hk11))<|js (qa ot)<|jg (fun hg12=>qc ot (fp pl28))<|jg (fun hg13=>qd (ow hg13) fo_api_Router_2 ty23)<|jg (fun hg14=>qe oF (dedup_Check_con (api_Router.Lasts a0) _ (of_pos hg14 hx16)) call59 (zc (zo (ow hg14)) zn))<|jg (fun hg17=>qw (ow hg17) oi)<|js (qm ot (fun hk18 => ow hk18))<|nt<|cn ot hm (fun hc19 hm=>?_) fun hc19 hm=>?_
 ·cases hm
  exact sr<|js (qb oi)<|nt<|ct<|tr<|JE.retA rfl (RvOK.tmp rfl)
 ·obtain ⟨x20,hx21,hm⟩ :=ob hm
  obtain ⟨x24,hx25,hm⟩ :=ob hm
  obtain ⟨x30,hx31,hm⟩ :=ob hm
  refine ck<|tn<|cs<|sr<|js (qn ot ty28)<|js (qe oF (route_maySubs_con a0 _ hx21) call60 (ze zn))<|js (qr ot)<|js (qa ot)<|jg (fun hg22=>qn ot ty28)<|jg (fun hg23=>qe oF (route_mayOut_con a0 _ (of_pos hg23 hx25)) call61 (zc (zo (ow hg23)) zn))<|jg (fun hg26=>qr (ow hg26))<|js (qm ot (fun hk27 => ow hk27))<|js (qa ot)<|jg (fun hg28=>qn ot ty28)<|jg (fun hg29=>qe oF (route_mayDead_con a0 _ (of_pos hg29 hx31)) call62 (zc (zo (ow hg29)) zn))<|jg (fun hg32=>qr (ow hg32))<|js (qm ot (fun hk33 => ow hk33))<|nt<|cn ot hm (fun hc34 hm=>?_) fun hc34 hm=>?_
  ·cases hm
   exact sr<|js (qb oi)<|nt<|ct<|tr<|JE.retA rfl (RvOK.tmp rfl)
  ·cases hm
   exact ck<|tn<|sr<|js (qb oi)<|nt<|ct<|JE.retA rfl (RvOK.tmp rfl)
theorem num_Fold_con (a0) (r) (hm : num_Fold a0 = r) : PC 118 [D (RInt .i64) a0] (D (RInt .u64) r) := by
 refine PI func118 fun w O=>?_
 unfold num_Fold at hm
 refine sr<|js (qb oi)<|nt<|cs<|sr<|js (qa ot)<|js (qI ot oi)<|nt<|cn ot hm (fun hc1 hm=>?_) fun hc1 hm=>?_
 ·cases hm
  exact sr<|js (qa ot)<|js (qA ot u2 u46)<|js (vi ot oi (by decide))<|js (qb ot)<|nt<|ct<|tr<|JE.retA rfl (RvOK.tmp rfl)
 ·cases hm
  exact ck<|tn<|sr<|js (qa ot)<|js (qk ot oi)<|js (vv ot)<|js (qA ot u2 u46)<|js (vi ot oi (by decide))<|js (qk ot oi)<|js (qb ot)<|nt<|ct<|JE.retA rfl (RvOK.tmp rfl)
theorem num_Pack_con (a0) (r) (hm : num_Pack a0 = some r) : PC 155 [D (RInt .u64) a0] (D RStr r) := by
 refine PI func155 fun w O=>?_
 unfold num_Pack at hm
 obtain ⟨hb1,hm⟩ :=og hm
 obtain ⟨⟨v8,v9⟩,hl10,hm⟩ :=ob hm
 refine sr<|js (qb oS)<|nt<|sr<|js (vh (j:=1) oi oi u75 sl5 zero5 hb1)<|js (qb ot)<|nt<|cs<|JC.join [(0, D (RInt .u64) v8), (3, OS 1)] [(1, OwnSl (RInt .u8) 5 v9)] ?_ (fun _ hK11=>?_)
 ·obtain ⟨hb19,hm⟩ :=og hm
  refine tn<|sr<|js (qa ot)<|js (qa ot)<|js (qA ot u46 u5)<|js (qC u75 ty5 hz5 (.cons ot .nil))<|js (qB (j:=4) ot ot u75 sl5 hb19) ?_
  refine JL.imp (Imp.frz 4 (ts := [19]) rfl (.cons rfl .nil)) ?_
  cases hm
  exact js (va ot u75 u5 u9)<|js (qb ot)<|nt<|ct<|JE.retA rfl (RvOK.tmp rfl)
 ·refine cb<|JC.loop _ (fun s17=>[(0, D (RInt .u64) s17.1), (3, OS 1)]) (fun s17=>[(1, OwnSl (RInt .u8) 5 s17.2)]) _ ?_ _ hl10 ml
  intro s17 r16 _ hs13 hB14 hE15
  obtain ⟨v4, v5⟩ := s17
  try dsimp only at hs13
  refine cs<|sr<|js (qa ot)<|js (qI ot oi)<|nt<|cn ot hs13 (fun hc20 hs13=>?_) fun hc20 hs13=>?_
  ·obtain ⟨hb21,hs13⟩ :=og hs13
   cases hs13
   refine ck<|tn<|cb<|sr<|js (qa ot)<|js (qa ot)<|js (qA ot u46 u5)<|js (vz ot oi)<|js (qC u75 ty5 hz5 (.cons ot .nil))<|js (qB (j:=5) ot ot u75 sl5 hb21)<|js (qb ot)<|nt<|cr<|js (qa ot)<|js (vk ot oi)<|js (qb ot)<|jn<|bn ?_
   exact JE.meetR [(1, 5)] (hB14 _ rfl) (by decide) (by decide) (CVR.cons (t := 0) rfl Ren.dat (CVR.cons (t := 3) rfl (Ren.os rfl) CVR.nil)) (OVR.cons (i := 5) rfl RenO.sl OVR.nil)
  ·cases hs13
   cases (hE15 _ rfl)
   exact cx<|tx<|tx<|bx<|mt hK11
theorem shelf_pen_id_o0_con (a1) (o0) (r) (hm : shelf_pen_id_o0 a1 o0 = some r) : SC 105 [(0,Bld 79 o0)] [BP 0 0,D (RInt .u64) a1] [(0,Bld 79 r)] (TUP []) := by
 refine SI func105 (fun gs=>[(0, BldAt (IsV (gs 0)) 79 o0)]) (fun gs=>(.bld .nil)) fun w O gs own hk=>?_
 unfold shelf_pen_id_o0 at hm
 obtain ⟨x1,hx2,hm⟩ :=ob hm
 obtain ⟨x3,hx4,hm⟩ :=ob hm
 refine cd mixed (da [0] (gu (qa ot))<|da [4] (gu (qt ot))<|da [5] (gu (qc (off:=0) ot (fp pl79)))<|da [1] (gu (qa ot))<|da [7] (gu (qe oF (num_Pack_con a1 _ hx2) call155 (zc (zo ot) zn)))<|de [6,8] [0] [] (gu (qg (σ:=[(0, 0)]) oF (strings_Builder_WriteString_con bld79 (by decide) x1 o0 _ hx4) call153 (.cons ot (Ren.bp rfl) (.cons ot Ren.dat .nil)) .nil (.bld (AOC.get rfl) .nil) (RenB.tup (.cons (.cons .nil)))))<|an)<|jv [] [0] ?_
 cases hm
 exact jn<|JE.end0<|JE.retS0 hk (.bld rfl .nil) (.bld rfl .nil) rfl
theorem shelf_pen_number_o0_con (a1) (o0) (r) (hm : shelf_pen_number_o0 a1 o0 = some r) : SC 63 [(0,Bld 79 o0)] [BP 0 0,D (RInt .i64) a1] [(0,Bld 79 r)] (TUP []) := by
 refine SI func63 (fun gs=>[(0, BldAt (IsV (gs 0)) 79 o0)]) (fun gs=>(.bld .nil)) fun w O gs own hk=>?_
 unfold shelf_pen_number_o0 at hm
 obtain ⟨x1,hx2,hm⟩ :=ob hm
 cases hm
 exact cr<|js (qa ot)<|js (qa ot)<|js (qe oF (num_Fold_con a1 _ rfl) call118 (ze zn))<|js (qg (σ:=[(0, 0)]) oF (shelf_pen_id_o0_con (num_Fold a1) o0 _ hx2) call105 (.cons ot (Ren.bp rfl) (.cons ot Ren.dat .nil)) .nil (.bld rfl .nil) (RenB.tup .nil))<|jn<|JE.end0<|JE.retS0 hk (.bld rfl .nil) (.bld rfl .nil) rfl
theorem shelf_pen_text_o0_con (a1) (o0) (r) (hm : shelf_pen_text_o0 a1 o0 = some r) : SC 103 [(0,Bld 79 o0)] [BP 0 0,D RStr a1] [(0,Bld 79 r)] (TUP []) := by
 refine SI func103 (fun gs=>[(0, BldAt (IsV (gs 0)) 79 o0)]) (fun gs=>(.bld .nil)) fun w O gs own hk=>?_
 unfold shelf_pen_text_o0 at hm
 obtain ⟨x1,hx2,hm⟩ :=ob hm
 obtain ⟨x3,hx4,hm⟩ :=ob hm
 cases hm
 exact sr<|js (qa ot)<|js (qa ot)<|js (qD ot u9)<|js (qA ot u3 u46)<|js (qg (σ:=[(0, 0)]) oF (shelf_pen_id_o0_con (IntKind.u64.wrap (List.length a1 : Int)) o0 _ hx2) call105 (.cons ot (Ren.bp rfl) (.cons ot Ren.dat .nil)) .nil (.bld rfl .nil) (RenB.tup .nil))<|nt<|cr<|js (qa ot)<|js (qt ot)<|js (qc ot (fp pl79))<|js (qa ot)<|js (qg (σ:=[(0, 0)]) oF (strings_Builder_WriteString_con bld79 (by decide) a1 x1 _ hx4) call153 (.cons ot (Ren.bp rfl) (.cons ot Ren.dat .nil)) .nil (.bld rfl .nil) (RenB.tup (.cons (.cons .nil))))<|jn<|JE.end0<|JE.retS0 hk (.bld rfl .nil) (.bld rfl .nil) rfl
theorem shelf_list_string_o0__shelf_pen_text_o0_con (a1) (o0) (r) (hm : shelf_list_string_o0__shelf_pen_text_o0 a1 o0 = some r) : SC 119 [(0,Bld 79 o0)] [BP 0 0,D (RSlice RStr) a1,BM 103 [BP 0 0]] [(0,Bld 79 r)] (TUP []) := by
 refine SI func119 (fun gs=>[(0, BldAt (IsV (gs 0)) 79 o0)]) (fun gs=>(.bld .nil)) fun w O gs own hk=>?_
 unfold shelf_list_string_o0__shelf_pen_text_o0 at hm
 obtain ⟨x1,hx2,hm⟩ :=ob hm
 obtain ⟨v13,hl14,hm⟩ :=ob hm
 refine sr<|js (qa ot)<|js (qa ot)<|js (qf ot u40)<|js (qA ot u3 u46)<|js (qg (σ:=[(0, 0)]) oF (shelf_pen_id_o0_con (IntKind.u64.wrap (List.length a1 : Int)) o0 _ hx2) call105 (.cons ot (Ren.bp rfl) (.cons ot Ren.dat .nil)) .nil (.bld rfl .nil) (RenB.tup .nil))<|nt<|sr<|js (qa ot)<|js (qf ot u40)<|js (qa oi)<|nt<|JC.join [] [(0, BldAt (IsV (gs 0)) 79 v13)] ?_ (fun _ hK15=>?_)
 ·cases hm
  exact JE.end0<|JE.retS0 hk (.bld rfl .nil) (.bld rfl .nil) rfl
 ·refine cb<|JC.loop _ (fun s21=>[(2, BM 103 [BP 0 0]), (13, D (RSlice RStr) a1), (14, D (RInt .i64) (List.length a1 : Int)), (15, D (RInt .i64) s21.1)]) (fun s21=>[(0, BldAt (IsV (gs 0)) 79 s21.2)]) _ ?_ _ hl14 ml
  intro s21 r20 _ hs17 hB18 hE19
  obtain ⟨v7, v8⟩ := s21
  try dsimp only at hs17
  refine sr<|js (qh ot ot)<|nt<|cs<|cn ot hs17 (fun hc23 hs17=>?_) fun hc23 hs17=>?_
  ·obtain ⟨hb24,hs17⟩ :=og hs17
   obtain ⟨x25,hx26,hs17⟩ :=ob hs17
   cases hs17
   exact ck<|tn<|cs<|cb<|sr<|js (qj ot ot u40 ty9 hb24)<|js (qi ot ty9)<|js (qb ot)<|nt<|cr<|js (qa ot)<|js (qa ot)<|js (qH (σ:=[(0, 0)]) ot (shelf_pen_text_o0_con (nth a1 v7) v8 _ hx26) call103 (.cons ot Ren.dat .nil) (.cons (Ren.bp rfl) .nil) (.bld rfl .nil) (RenB.tup .nil))<|jn<|bn<|tn<|cr<|js (qk ot oi)<|js (qa ot)<|jn<|mt (hB18 _ rfl)
  ·cases hs17
   cases (hE19 _ rfl)
   exact cx<|tx<|tx<|bx<|mt hK15
theorem shelf_pen_topic_o0_con (a1) (o0) (r) (hm : shelf_pen_topic_o0 a1 o0 = some r) : SC 65 [(0,Bld 79 o0)] [BP 0 0,D R_api_Topic a1] [(0,Bld 79 r)] (TUP []) := by
 refine SI func65 (fun gs=>[(0, BldAt (IsV (gs 0)) 79 o0)]) (fun gs=>(.bld .nil)) fun w O gs own hk=>?_
 unfold shelf_pen_topic_o0 at hm
 obtain ⟨x1,hx2,hm⟩ :=ob hm
 obtain ⟨x3,hx4,hm⟩ :=ob hm
 obtain ⟨x5,hx6,hm⟩ :=ob hm
 cases hm
 exact sr<|js (qq (i:=2) ot)<|nt<|sr<|js (qa ot)<|js (qc ot (fp pl62))<|js (qd ot fo_api_Topic_0 ty9)<|js (qg (σ:=[(0, 0)]) oF (shelf_pen_text_o0_con (api_Topic.Name a1) o0 _ hx2) call103 (.cons ot (Ren.bp rfl) (.cons ot Ren.dat .nil)) .nil (.bld rfl .nil) (RenB.tup .nil))<|nt<|sr<|js (qa ot)<|js (qc ot (fp pl62))<|js (qd ot fo_api_Topic_1 ty3)<|js (qg (σ:=[(0, 0)]) oF (shelf_pen_number_o0_con (api_Topic.First a1) x1 _ hx4) call63 (.cons ot (Ren.bp rfl) (.cons ot Ren.dat .nil)) .nil (.bld rfl .nil) (RenB.tup .nil))<|nt<|cr<|js (qa ot)<|js (qc ot (fp pl62))<|js (qd ot fo_api_Topic_2 ty40)<|js (qa ot)<|js (qG (Caps.cons ot (Caps.nil (xs := []))))<|js (qg (σ:=[(0, 0)]) oF (shelf_list_string_o0__shelf_pen_text_o0_con (api_Topic.Log a1) x3 _ hx6) call119 (.cons ot (Ren.bp rfl) (.cons ot Ren.dat (.cons ot (Ren.bm (.cons (Ren.bp rfl) .nil)) .nil))) .nil (.bld rfl .nil) (RenB.tup .nil))<|jn<|JE.end0<|JE.retS0 hk (.bld rfl .nil) (.bld rfl .nil) rfl
theorem shelf_list_api_Topic_o0__shelf_pen_topic_o0_con (a1) (o0) (r) (hm : shelf_list_api_Topic_o0__shelf_pen_topic_o0 a1 o0 = some r) : SC 64 [(0,Bld 79 o0)] [BP 0 0,D (RSlice R_api_Topic) a1,BM 65 [BP 0 0]] [(0,Bld 79 r)] (TUP []) := by
 refine SI func64 (fun gs=>[(0, BldAt (IsV (gs 0)) 79 o0)]) (fun gs=>(.bld .nil)) fun w O gs own hk=>?_
 unfold shelf_list_api_Topic_o0__shelf_pen_topic_o0 at hm
 obtain ⟨x1,hx2,hm⟩ :=ob hm
 obtain ⟨v13,hl14,hm⟩ :=ob hm
 refine sr<|js (qa ot)<|js (qa ot)<|js (qf ot u22)<|js (qA ot u3 u46)<|js (qg (σ:=[(0, 0)]) oF (shelf_pen_id_o0_con (IntKind.u64.wrap (List.length a1 : Int)) o0 _ hx2) call105 (.cons ot (Ren.bp rfl) (.cons ot Ren.dat .nil)) .nil (.bld rfl .nil) (RenB.tup .nil))<|nt<|sr<|js (qa ot)<|js (qf ot u22)<|js (qa oi)<|nt<|JC.join [] [(0, BldAt (IsV (gs 0)) 79 v13)] ?_ (fun _ hK15=>?_)
 ·cases hm
  exact JE.end0<|JE.retS0 hk (.bld rfl .nil) (.bld rfl .nil) rfl
 ·refine cb<|JC.loop _ (fun s21=>[(2, BM 65 [BP 0 0]), (13, D (RSlice R_api_Topic) a1), (14, D (RInt .i64) (List.length a1 : Int)), (15, D (RInt .i64) s21.1)]) (fun s21=>[(0, BldAt (IsV (gs 0)) 79 s21.2)]) _ ?_ _ hl14 ml
  intro s21 r20 _ hs17 hB18 hE19
  obtain ⟨v7, v8⟩ := s21
  try dsimp only at hs17
  refine sr<|js (qh ot ot)<|nt<|cs<|cn ot hs17 (fun hc23 hs17=>?_) fun hc23 hs17=>?_
  ·obtain ⟨hb24,hs17⟩ :=og hs17
   obtain ⟨x25,hx26,hs17⟩ :=ob hs17
   cases hs17
   exact ck<|tn<|cs<|cb<|sr<|js (qj ot ot u22 ty62 hb24)<|js (qi ot ty62)<|js (qp (i:=4) zero62)<|js (qo ot ot ty62)<|nt<|cr<|js (qa ot)<|js (qn ot ty62)<|js (qH (σ:=[(0, 0)]) ot (shelf_pen_topic_o0_con (nth a1 v7) v8 _ hx26) call65 (.cons ot Ren.dat .nil) (.cons (Ren.bp rfl) .nil) (.bld rfl .nil) (RenB.tup .nil))<|jn<|bn<|tn<|cr<|js (qk ot oi)<|js (qa ot)<|jn<|mt (hB18 _ rfl)
  ·cases hs17
   cases (hE19 _ rfl)
   exact cx<|tx<|tx<|bx<|mt hK15
theorem shelf_pen_last_o0_con (a1) (o0) (r) (hm : shelf_pen_last_o0 a1 o0 = some r) : SC 67 [(0,Bld 79 o0)] [BP 0 0,D R_api_Last a1] [(0,Bld 79 r)] (TUP []) := by
 refine SI func67 (fun gs=>[(0, BldAt (IsV (gs 0)) 79 o0)]) (fun gs=>(.bld .nil)) fun w O gs own hk=>?_
 unfold shelf_pen_last_o0 at hm
 obtain ⟨x1,hx2,hm⟩ :=ob hm
 obtain ⟨x3,hx4,hm⟩ :=ob hm
 obtain ⟨x5,hx6,hm⟩ :=ob hm
 cases hm
 exact sr<|js (qq (i:=2) ot)<|nt<|sr<|js (qa ot)<|js (qc ot (fp pl102))<|js (qd ot fo_api_Last_0 ty9)<|js (qg (σ:=[(0, 0)]) oF (shelf_pen_text_o0_con (api_Last.Producer a1) o0 _ hx2) call103 (.cons ot (Ren.bp rfl) (.cons ot Ren.dat .nil)) .nil (.bld rfl .nil) (RenB.tup .nil))<|nt<|sr<|js (qa ot)<|js (qc ot (fp pl102))<|js (qd ot fo_api_Last_1 ty46)<|js (qg (σ:=[(0, 0)]) oF (shelf_pen_id_o0_con (api_Last.Seq a1) x1 _ hx4) call105 (.cons ot (Ren.bp rfl) (.cons ot Ren.dat .nil)) .nil (.bld rfl .nil) (RenB.tup .nil))<|nt<|cr<|js (qa ot)<|js (qc ot (fp pl102))<|js (qd ot fo_api_Last_2 ty3)<|js (qg (σ:=[(0, 0)]) oF (shelf_pen_number_o0_con (api_Last.Offset a1) x3 _ hx6) call63 (.cons ot (Ren.bp rfl) (.cons ot Ren.dat .nil)) .nil (.bld rfl .nil) (RenB.tup .nil))<|jn<|JE.end0<|JE.retS0 hk (.bld rfl .nil) (.bld rfl .nil) rfl
theorem shelf_list_api_Last_o0__shelf_pen_last_o0_con (a1) (o0) (r) (hm : shelf_list_api_Last_o0__shelf_pen_last_o0 a1 o0 = some r) : SC 66 [(0,Bld 79 o0)] [BP 0 0,D (RSlice R_api_Last) a1,BM 67 [BP 0 0]] [(0,Bld 79 r)] (TUP []) := by
 refine SI func66 (fun gs=>[(0, BldAt (IsV (gs 0)) 79 o0)]) (fun gs=>(.bld .nil)) fun w O gs own hk=>?_
 unfold shelf_list_api_Last_o0__shelf_pen_last_o0 at hm
 obtain ⟨x1,hx2,hm⟩ :=ob hm
 obtain ⟨v13,hl14,hm⟩ :=ob hm
 refine sr<|js (qa ot)<|js (qa ot)<|js (qf ot u23)<|js (qA ot u3 u46)<|js (qg (σ:=[(0, 0)]) oF (shelf_pen_id_o0_con (IntKind.u64.wrap (List.length a1 : Int)) o0 _ hx2) call105 (.cons ot (Ren.bp rfl) (.cons ot Ren.dat .nil)) .nil (.bld rfl .nil) (RenB.tup .nil))<|nt<|sr<|js (qa ot)<|js (qf ot u23)<|js (qa oi)<|nt<|JC.join [] [(0, BldAt (IsV (gs 0)) 79 v13)] ?_ (fun _ hK15=>?_)
 ·cases hm
  exact JE.end0<|JE.retS0 hk (.bld rfl .nil) (.bld rfl .nil) rfl
 ·refine cb<|JC.loop _ (fun s21=>[(2, BM 67 [BP 0 0]), (13, D (RSlice R_api_Last) a1), (14, D (RInt .i64) (List.length a1 : Int)), (15, D (RInt .i64) s21.1)]) (fun s21=>[(0, BldAt (IsV (gs 0)) 79 s21.2)]) _ ?_ _ hl14 ml
  intro s21 r20 _ hs17 hB18 hE19
  obtain ⟨v7, v8⟩ := s21
  try dsimp only at hs17
  refine sr<|js (qh ot ot)<|nt<|cs<|cn ot hs17 (fun hc23 hs17=>?_) fun hc23 hs17=>?_
  ·obtain ⟨hb24,hs17⟩ :=og hs17
   obtain ⟨x25,hx26,hs17⟩ :=ob hs17
   cases hs17
   exact ck<|tn<|cs<|cb<|sr<|js (qj ot ot u23 ty102 hb24)<|js (qi ot ty102)<|js (qp (i:=4) zero102)<|js (qo ot ot ty102)<|nt<|cr<|js (qa ot)<|js (qn ot ty102)<|js (qH (σ:=[(0, 0)]) ot (shelf_pen_last_o0_con (nth a1 v7) v8 _ hx26) call67 (.cons ot Ren.dat .nil) (.cons (Ren.bp rfl) .nil) (.bld rfl .nil) (RenB.tup .nil))<|jn<|bn<|tn<|cr<|js (qk ot oi)<|js (qa ot)<|jn<|mt (hB18 _ rfl)
  ·cases hs17
   cases (hE19 _ rfl)
   exact cx<|tx<|tx<|bx<|mt hK15
theorem val_Write_con (a0) (r) (hm : val_Write a0 = some r) : PC 221 [D R_api_Value a0] (TUP [D RStr r.1,D (RInt .i64) r.2]) := by
 refine PI func221 fun w O=>?_
 unfold val_Write at hm
 refine sr<|js (qq (i:=1) ot)<|js (qb oS)<|js (qb oi)<|nt<|cs<|sr<|js (qn ot ty118)<|js (qe oF (val_May_con a0 _ rfl) call203 (ze zn))<|js (qr ot)<|nt<|cn ot hm (fun hc1 hm=>?_) fun hc1 hm=>?_
 ·cases hm
  exact sr<|js (qb oS)<|js (qb oi)<|nt<|ct<|tr<|JE.retB rfl (RvOK.tmp rfl) (RvOK.tmp rfl)
 ·refine ck<|tn<|cs<|sr<|js (qc ot (fp pl118))<|js (qd ot fo_api_Value_0 ty4)<|nt<|cn ot hm (fun hc2 hm=>?_) fun hc2 hm=>?_
  ·obtain ⟨x3,hx4,hm⟩ :=ob hm
   cases hm
   exact sr<|js (qc ot (fp pl118))<|js (qd ot fo_api_Value_1 ty2)<|js (qe oF (strconv_FormatInt_con (api_Value.N a0) (10 : Int) _ hx4) call235 (ze (zc (zo oi) zn)))<|js (qb ot)<|js (qb oi)<|nt<|ct<|tr<|JE.retB rfl (RvOK.tmp rfl) (RvOK.tmp rfl)
  ·obtain ⟨v37,hl38,hm⟩ :=ob hm
   refine ck<|tn<|sr<|js (qV (j:=2) u75 ty5 hz5 (.cons oi .nil))<|js (qb ot)<|nt<|cs<|sr<|js (qc ot (fp pl118))<|js (qd ot fo_api_Value_2 ty9)<|js (qD ot u9)<|js (qa oi)<|nt<|JC.join [(4, OS 2)] [(2, OwnSl (RInt .u8) 5 v37)] ?_ (fun _ hK39=>?_)
   ·obtain ⟨hb47,hm⟩ :=og hm
    refine tn<|sr<|js (qa ot)<|js (qC u75 ty5 hz5 (.cons oi .nil))<|js (qB (j:=9) ot ot u75 sl5 hb47) ?_
    refine JL.imp (Imp.frz 9 (ts := [46]) rfl (.cons rfl .nil)) ?_
    cases hm
    exact js (va ot u75 u5 u9)<|js (qb ot)<|js (qb oi)<|nt<|ct<|JE.retB rfl (RvOK.tmp rfl) (RvOK.tmp rfl)
   ·refine cb<|JC.loop _ (fun s45=>[(1, BP 1 0), (4, OS 2), (17, D (RInt .i64) (List.length (api_Value.S a0) : Int)), (18, D (RInt .i64) s45.1)]) (fun s45=>[(1, Box R_api_Value 118 a0), (2, OwnSl (RInt .u8) 5 s45.2)]) _ ?_ _ hl38 ml
    intro s45 r44 _ hs41 hB42 hE43
    obtain ⟨v20, v21⟩ := s45
    try dsimp only at hs41
    refine sr<|js (qh ot ot)<|nt<|cs<|cn ot hs41 (fun hc48 hs41=>?_) fun hc48 hs41=>?_
    ·obtain ⟨hb49,hs41⟩ :=og hs41
     obtain ⟨hb54,hs41⟩ :=og hs41
     refine ck<|tn<|cs<|cb<|sr<|js (qa ot)<|js (qb ot)<|nt<|cs<|sr<|js (qc ot (fp pl118))<|js (qd ot fo_api_Value_2 ty9)<|js (qa ot)<|js (qU ot ot u9 hb49)<|js (qy ot oi)<|js (qa ot)<|jg (fun hg50=>qc ot (fp pl118))<|jg (fun hg51=>qd (ow hg51) fo_api_Value_2 ty9)<|jg (fun hg52=>qa ot)<|jg (fun hg53=>qU (ow hg53) (ow hg53) u9 (hb54 hg53))<|jg (fun hg55=>qy (ow hg55) oi)<|js (qm ot (fun hk56 => ow hk56))<|nt<|cn ot hs41 (fun hc57 hs41=>?_) fun hc57 hs41=>?_
     ·obtain ⟨hb58,hs41⟩ :=og hs41
      obtain ⟨hb59,hs41⟩ :=og hs41
      obtain ⟨hb60,hs41⟩ :=og hs41
      cases hs41
      refine cr<|js (qa ot)<|js (qC u75 ty5 hz5 (.cons oi .nil))<|js (qB (j:=10) ot ot u75 sl5 hb58)<|js (qb ot)<|nt<|cr<|js (qa ot)<|js (qc ot (fp pl118))<|js (qd ot fo_api_Value_2 ty9)<|js (qa ot)<|js (qU ot ot u9 hb59)<|js (qC u75 ty5 hz5 (.cons ot .nil))<|js (qB (j:=11) ot ot u75 sl5 hb60)<|js (qb ot)<|jn<|bn<|tn<|cr<|js (qk ot oi)<|js (qa ot)<|jn ?_
      exact JE.meetR [(1, 1), (2, 11)] (hB42 _ rfl) (by decide) (by decide) (CVR.cons (t := 1) rfl (Ren.bp rfl) (CVR.cons (t := 4) rfl (Ren.os rfl) (CVR.cons (t := 17) rfl Ren.dat (CVR.cons (t := 18) rfl Ren.dat CVR.nil)))) (OVR.cons (i := 1) rfl RenO.box (OVR.cons (i := 11) rfl RenO.sl OVR.nil))
     ·obtain ⟨hb61,hs41⟩ :=og hs41
      obtain ⟨hb62,hs41⟩ :=og hs41
      cases hs41
      refine ck<|tn<|cr<|js (qa ot)<|js (qc ot (fp pl118))<|js (qd ot fo_api_Value_2 ty9)<|js (qa ot)<|js (qU ot ot u9 hb61)<|js (qC u75 ty5 hz5 (.cons ot .nil))<|js (qB (j:=12) ot ot u75 sl5 hb62)<|js (qb ot)<|jn<|bn<|tn<|cr<|js (qk ot oi)<|js (qa ot)<|jn ?_
      exact JE.meetR [(1, 1), (2, 12)] (hB42 _ rfl) (by decide) (by decide) (CVR.cons (t := 1) rfl (Ren.bp rfl) (CVR.cons (t := 4) rfl (Ren.os rfl) (CVR.cons (t := 17) rfl Ren.dat (CVR.cons (t := 18) rfl Ren.dat CVR.nil)))) (OVR.cons (i := 1) rfl RenO.box (OVR.cons (i := 12) rfl RenO.sl OVR.nil))
    ·cases hs41
     cases (hE43 _ rfl)
     exact cx<|tx<|tx<|bx<|mt hK39
theorem pred_write_o0_con : ∀ (n : Nat) (a1 : api_Pred) (o0 : Str) (r : Str) (hm : pred_write_o0 n a1 o0 = some r), SCon Base prog 210 [(0, Bld 77 o0)] [BP 0 0, D R_api_Pred a1] [(0, Bld 77 r)] (TUP []) := by
 intro n
 induction n with
 | zero => intro a1 o0 r hm; rw [pred_write_o0.eq_1] at hm; cases hm
 | succ n ih =>
  intro a1 o0 r hm
  rw [pred_write_o0.eq_2] at hm
  refine SI func210 (fun gs=>[(0, BldAt (IsV (gs 0)) 77 o0)]) (fun gs=>(.bld .nil)) fun w O gs own hk=>?_
  refine sr<|js (qq (i:=2) ot)<|nt<|sr<|js (qc ot (fp pl120))<|js (qd ot fo_api_Pred_0 ty9)<|nt<|cb<|sr<|js (qz ot oS)<|js (qb ot)<|nt<|cn ot hm (fun hc1 hm=>?_) fun hc1 hm=>?_
  ·obtain ⟨x2,hx3,hm⟩ :=ob hm
   cases hm
   exact cr<|js (qa ot)<|js (qc ot (fp pl120))<|js (qd ot fo_api_Pred_0 ty9)<|js (qg (σ:=[(0, 0)]) oF (strings_Builder_WriteString_con bld77 (by decide) (PT.Op a1) o0 _ hx3) call153 (.cons ot (Ren.bp rfl) (.cons ot Ren.dat .nil)) .nil (.bld rfl .nil) (RenB.tup (.cons (.cons .nil))))<|jn<|bn<|JE.end0<|JE.retS0 hk (.bld rfl .nil) (.bld rfl .nil) rfl
  ·obtain ⟨v5,hj6,hm⟩ :=ob hm
   refine cs<|sr<|js (qz ot oS)<|js (qb ot)<|nt<|JC.join [(0, BP 0 0), (3, BP 2 0), (8, D RStr (PT.Op a1)), (37, D RBool v5)] [(0, BldAt (IsV (gs 0)) 77 o0), (2, Box R_api_Pred 120 a1)] ?_ (fun _ hK7=>?_)
   ·refine tn<|cn ot hm (fun hc9 hm=>?_) fun hc9 hm=>?_
    ·obtain ⟨hb10,hm⟩ :=og hm
     obtain ⟨hb11,hm⟩ :=og hm
     obtain ⟨hb12,hm⟩ :=og hm
     obtain ⟨x13,hx14,hm⟩ :=ob hm
     cases hm
     exact cr<|js (qa ot)<|js (qc ot (fp pl120))<|js (qd ot fo_api_Pred_0 ty9)<|js (qM ot oS hb10)<|js (qc ot (fp pl120))<|js (qd ot fo_api_Pred_1 ty9)<|js (qM ot ot hb11)<|js (qM ot oS hb12)<|js (qg (σ:=[(0, 0)]) oF (strings_Builder_WriteString_con bld77 (by decide) ((((PT.Op a1) ++ ([40] : Str)) ++ (PT.S a1)) ++ ([41] : Str)) o0 _ hx14) call153 (.cons ot (Ren.bp rfl) (.cons ot Ren.dat .nil)) .nil (.bld rfl .nil) (RenB.tup (.cons (.cons .nil))))<|jn<|bn<|JE.end0<|JE.retS0 hk (.bld rfl .nil) (.bld rfl .nil) rfl
    ·obtain ⟨v16,hj17,hm⟩ :=ob hm
     refine cs<|sr<|js (qz ot oS)<|js (qb ot)<|nt<|JC.join [(0, BP 0 0), (3, BP 2 0), (8, D RStr (PT.Op a1)), (49, D RBool v16)] [(0, BldAt (IsV (gs 0)) 77 o0), (2, Box R_api_Pred 120 a1)] ?_ (fun _ hK18=>?_)
     ·refine tn<|cn ot hm (fun hc20 hm=>?_) fun hc20 hm=>?_
      ·obtain ⟨v22,hj23,hm⟩ :=ob hm
       refine sr<|js (qb oS)<|nt<|cs<|sr<|js (qc ot (fp pl120))<|js (qd ot fo_api_Pred_0 ty9)<|js (qz ot oS)<|nt<|JC.join [(0, BP 0 0), (3, BP 2 0), (4, D RStr v22)] [(0, BldAt (IsV (gs 0)) 77 o0), (2, Box R_api_Pred 120 a1)] ?_ (fun _ hK24=>?_)
       ·obtain ⟨x26,hx27,hm⟩ :=ob hm
        obtain ⟨hb28,hm⟩ :=og hm
        obtain ⟨hb29,hm⟩ :=og hm
        obtain ⟨hb30,hm⟩ :=og hm
        obtain ⟨hb31,hm⟩ :=og hm
        obtain ⟨x32,hx33,hm⟩ :=ob hm
        cases hm
        exact tn<|sr<|js (qc ot (fp pl120))<|js (qd ot fo_api_Pred_2 ty118)<|js (qe oF (val_Write_con (PT.V a1) _ hx27) call221 (ze zn))<|js (qa ot)<|js (qu ot)<|js (qu ot)<|js (qb ot)<|js (qb ot)<|nt<|cr<|js (qa ot)<|js (qc ot (fp pl120))<|js (qd ot fo_api_Pred_1 ty9)<|js (qM oS ot hb28)<|js (qa ot)<|js (qM ot ot hb29)<|js (qa ot)<|js (qM ot ot hb30)<|js (qM ot oS hb31)<|js (qg (σ:=[(0, 0)]) oF (strings_Builder_WriteString_con bld77 (by decide) ((((([40] : Str) ++ (PT.S a1)) ++ v22) ++ x26.1) ++ ([41] : Str)) o0 _ hx33) call153 (.cons ot (Ren.bp rfl) (.cons ot Ren.dat .nil)) .nil (.bld rfl .nil) (RenB.tup (.cons (.cons .nil))))<|jn<|bn<|JE.end0<|JE.retS0 hk (.bld rfl .nil) (.bld rfl .nil) rfl
       ·refine cn ot hj23 (fun hc35 hj23=>?_) fun hc35 hj23=>?_
        ·cases hj23
         exact cr<|js (qb oS)<|jn<|mt hK24
        ·cases hj23
         exact ck<|mt hK24
      ·refine sr<|js (qz ot oS)<|js (qb ot)<|nt<|cn ot hm (fun hc36 hm=>?_) fun hc36 hm=>?_
       ·obtain ⟨x37,hx38,hm⟩ :=ob hm
        obtain ⟨hb39,hm⟩ :=og hm
        obtain ⟨x40,hx41,hm⟩ :=ob hm
        obtain ⟨x42,hx43,hm⟩ :=ob hm
        cases hm
        exact sr<|js (qa ot)<|js (qg (σ:=[(0, 0)]) oF (strings_Builder_WriteString_con bld77 (by decide) ([40, 110, 111, 116, 32] : Str) o0 _ hx38) call153 (.cons ot (Ren.bp rfl) (.cons oS Ren.dat .nil)) .nil (.bld rfl .nil) (RenB.tup (.cons (.cons .nil))))<|nt<|sr<|js (qa ot)<|js (qc ot (fp pl120))<|js (qd ot fo_api_Pred_3 ty41)<|js (qj ot oi u41 ty120 hb39)<|js (qi ot ty120)<|js (qg (σ:=[(0, 0)]) oF (ih (nth (PT.L a1) (0 : Int)) x37.2.2 _ hx41) call210 (.cons ot (Ren.bp rfl) (.cons ot Ren.dat .nil)) .nil (.bld rfl .nil) (RenB.tup .nil))<|nt<|cr<|js (qa ot)<|js (qg (σ:=[(0, 0)]) oF (strings_Builder_WriteString_con bld77 (by decide) ([41] : Str) x40 _ hx43) call153 (.cons ot (Ren.bp rfl) (.cons oS Ren.dat .nil)) .nil (.bld rfl .nil) (RenB.tup (.cons (.cons .nil))))<|jn<|bn<|JE.end0<|JE.retS0 hk (.bld rfl .nil) (.bld rfl .nil) rfl
       ·obtain ⟨x44,hx45,hm⟩ :=ob hm
        obtain ⟨hb46,hm⟩ :=og hm
        obtain ⟨x47,hx48,hm⟩ :=ob hm
        obtain ⟨hb49,hm⟩ :=og hm
        obtain ⟨hb50,hm⟩ :=og hm
        obtain ⟨x51,hx52,hm⟩ :=ob hm
        obtain ⟨hb53,hm⟩ :=og hm
        obtain ⟨x54,hx55,hm⟩ :=ob hm
        obtain ⟨x56,hx57,hm⟩ :=ob hm
        cases hm
        exact sr<|js (qa ot)<|js (qg (σ:=[(0, 0)]) oF (strings_Builder_WriteString_con bld77 (by decide) ([40] : Str) o0 _ hx45) call153 (.cons ot (Ren.bp rfl) (.cons oS Ren.dat .nil)) .nil (.bld rfl .nil) (RenB.tup (.cons (.cons .nil))))<|nt<|sr<|js (qa ot)<|js (qc ot (fp pl120))<|js (qd ot fo_api_Pred_3 ty41)<|js (qj ot oi u41 ty120 hb46)<|js (qi ot ty120)<|js (qg (σ:=[(0, 0)]) oF (ih (nth (PT.L a1) (0 : Int)) x44.2.2 _ hx48) call210 (.cons ot (Ren.bp rfl) (.cons ot Ren.dat .nil)) .nil (.bld rfl .nil) (RenB.tup .nil))<|nt<|sr<|js (qa ot)<|js (qc ot (fp pl120))<|js (qd ot fo_api_Pred_0 ty9)<|js (qM oS ot hb49)<|js (qM ot oS hb50)<|js (qg (σ:=[(0, 0)]) oF (strings_Builder_WriteString_con bld77 (by decide) ((([32] : Str) ++ (PT.Op a1)) ++ ([32] : Str)) x47 _ hx52) call153 (.cons ot (Ren.bp rfl) (.cons ot Ren.dat .nil)) .nil (.bld rfl .nil) (RenB.tup (.cons (.cons .nil))))<|nt<|sr<|js (qa ot)<|js (qc ot (fp pl120))<|js (qd ot fo_api_Pred_3 ty41)<|js (qj ot oi u41 ty120 hb53)<|js (qi ot ty120)<|js (qg (σ:=[(0, 0)]) oF (ih (nth (PT.L a1) (1 : Int)) x51.2.2 _ hx55) call210 (.cons ot (Ren.bp rfl) (.cons ot Ren.dat .nil)) .nil (.bld rfl .nil) (RenB.tup .nil))<|nt<|cr<|js (qa ot)<|js (qg (σ:=[(0, 0)]) oF (strings_Builder_WriteString_con bld77 (by decide) ([41] : Str) x54 _ hx57) call153 (.cons ot (Ren.bp rfl) (.cons oS Ren.dat .nil)) .nil (.bld rfl .nil) (RenB.tup (.cons (.cons .nil))))<|jn<|bn<|JE.end0<|JE.retS0 hk (.bld rfl .nil) (.bld rfl .nil) rfl
     ·refine cn ot hj17 (fun hc59 hj17=>?_) fun hc59 hj17=>?_
      ·cases hj17
       exact ck<|mt hK18
      ·cases hj17
       exact cr<|js (qz ot oS)<|js (qb ot)<|jn<|mt hK18
   ·refine cn ot hj6 (fun hc61 hj6=>?_) fun hc61 hj6=>?_
    ·cases hj6
     exact ck<|mt hK7
    ·cases hj6
     exact cr<|js (qz ot oS)<|js (qb ot)<|jn<|mt hK7
theorem pred_Text_con (a0) (r) (hm : pred_Text a0 = some r) : PC 193 [D R_api_Pred a0] (TUP [D RStr r.1,D (RInt .i64) r.2]) := by
 refine PI func193 fun w O=>?_
 unfold pred_Text at hm
 obtain ⟨x1,hx2,hm⟩ :=ob hm
 refine sr<|js (qq (i:=1) ot)<|js (qb oS)<|js (qb oi)<|nt<|cs<|sr<|js (qn ot ty120)<|js (qe oF (pred_May_con a0 _ hx2) call152 (ze zn))<|js (qr ot)<|nt<|cn ot hm (fun hc3 hm=>?_) fun hc3 hm=>?_
 ·cases hm
  exact sr<|js (qb oS)<|js (qb oi)<|nt<|ct<|tr<|JE.retB rfl (RvOK.tmp rfl) (RvOK.tmp rfl)
 ·obtain ⟨x4,hx5,hm⟩ :=ob hm
  obtain ⟨x6,hx7,hm⟩ :=ob hm
  cases hm
  exact ck<|tn<|sr<|js (vf (j:=2))<|nt<|sr<|js (qn ot ty120)<|js (qg (σ:=[(0, 2)]) oF (pred_write_o0_con FUEL a0 ([] : Str) _ hx5) call210 (.cons ot (Ren.bp rfl) (.cons ot Ren.dat .nil)) .nil (.bld rfl .nil) (RenB.tup .nil))<|nt<|sr<|js (qg (σ:=[(0, 2)]) oF (strings_Builder_String_con (T := 77) x4 _ hx7) call27 (.cons ot (Ren.bp rfl) .nil) .nil (.bldDead rfl .nil) RenB.dat)<|js (qb ot)<|js (qb oi)<|nt<|ct<|JE.retB rfl (RvOK.tmp rfl) (RvOK.tmp rfl)
theorem shelf_pen_where_o0_con (a1) (o0) (r) (hm : shelf_pen_where_o0 a1 o0 = some r) : SC 157 [(0,Bld 79 o0)] [BP 0 0,D R_api_Pred a1] [(0,Bld 79 r)] (TUP []) := by
 refine SI func157 (fun gs=>[(0, BldAt (IsV (gs 0)) 79 o0)]) (fun gs=>(.bld .nil)) fun w O gs own hk=>?_
 unfold shelf_pen_where_o0 at hm
 obtain ⟨x1,hx2,hm⟩ :=ob hm
 obtain ⟨x3,hx4,hm⟩ :=ob hm
 cases hm
 exact sr<|js (qq (i:=2) ot)<|nt<|sr<|js (qn ot ty120)<|js (qe oF (pred_Text_con a1 _ hx2) call193 (ze zn))<|js (qa ot)<|js (qu ot)<|js (qu ot)<|js (qb ot)<|js (qb ot)<|nt<|cr<|js (qa ot)<|js (qa ot)<|js (qg (σ:=[(0, 0)]) oF (shelf_pen_text_o0_con x1.1 o0 _ hx4) call103 (.cons ot (Ren.bp rfl) (.cons ot Ren.dat .nil)) .nil (.bld rfl .nil) (RenB.tup .nil))<|jn<|JE.end0<|JE.retS0 hk (.bld rfl .nil) (.bld rfl .nil) rfl
theorem shelf_list_api_Pred_o0__shelf_pen_where_o0_con (a1) (o0) (r) (hm : shelf_list_api_Pred_o0__shelf_pen_where_o0 a1 o0 = some r) : SC 156 [(0,Bld 79 o0)] [BP 0 0,D (RSlice R_api_Pred) a1,BM 157 [BP 0 0]] [(0,Bld 79 r)] (TUP []) := by
 refine SI func156 (fun gs=>[(0, BldAt (IsV (gs 0)) 79 o0)]) (fun gs=>(.bld .nil)) fun w O gs own hk=>?_
 unfold shelf_list_api_Pred_o0__shelf_pen_where_o0 at hm
 obtain ⟨x1,hx2,hm⟩ :=ob hm
 obtain ⟨v13,hl14,hm⟩ :=ob hm
 refine sr<|js (qa ot)<|js (qa ot)<|js (qf ot u41)<|js (qA ot u3 u46)<|js (qg (σ:=[(0, 0)]) oF (shelf_pen_id_o0_con (IntKind.u64.wrap (List.length a1 : Int)) o0 _ hx2) call105 (.cons ot (Ren.bp rfl) (.cons ot Ren.dat .nil)) .nil (.bld rfl .nil) (RenB.tup .nil))<|nt<|sr<|js (qa ot)<|js (qf ot u41)<|js (qa oi)<|nt<|JC.join [] [(0, BldAt (IsV (gs 0)) 79 v13)] ?_ (fun _ hK15=>?_)
 ·cases hm
  exact JE.end0<|JE.retS0 hk (.bld rfl .nil) (.bld rfl .nil) rfl
 ·refine cb<|JC.loop _ (fun s21=>[(2, BM 157 [BP 0 0]), (13, D (RSlice R_api_Pred) a1), (14, D (RInt .i64) (List.length a1 : Int)), (15, D (RInt .i64) s21.1)]) (fun s21=>[(0, BldAt (IsV (gs 0)) 79 s21.2)]) _ ?_ _ hl14 ml
  intro s21 r20 _ hs17 hB18 hE19
  obtain ⟨v7, v8⟩ := s21
  try dsimp only at hs17
  refine sr<|js (qh ot ot)<|nt<|cs<|cn ot hs17 (fun hc23 hs17=>?_) fun hc23 hs17=>?_
  ·obtain ⟨hb24,hs17⟩ :=og hs17
   obtain ⟨x25,hx26,hs17⟩ :=ob hs17
   cases hs17
   exact ck<|tn<|cs<|cb<|sr<|js (qj ot ot u41 ty120 hb24)<|js (qi ot ty120)<|js (qp (i:=4) zero120)<|js (qo ot ot ty120)<|nt<|cr<|js (qa ot)<|js (qn ot ty120)<|js (qH (σ:=[(0, 0)]) ot (shelf_pen_where_o0_con (nth a1 v7) v8 _ hx26) call157 (.cons ot Ren.dat .nil) (.cons (Ren.bp rfl) .nil) (.bld rfl .nil) (RenB.tup .nil))<|jn<|bn<|tn<|cr<|js (qk ot oi)<|js (qa ot)<|jn<|mt (hB18 _ rfl)
  ·cases hs17
   cases (hE19 _ rfl)
   exact cx<|tx<|tx<|bx<|mt hK15
theorem shelf_pen_def_o0_con (a1) (o0) (r) (hm : shelf_pen_def_o0 a1 o0 = some r) : SC 106 [(0,Bld 79 o0)] [BP 0 0,D R_api_Def a1] [(0,Bld 79 r)] (TUP []) := by
 refine SI func106 (fun gs=>[(0, BldAt (IsV (gs 0)) 79 o0)]) (fun gs=>(.bld .nil)) fun w O gs own hk=>?_
 unfold shelf_pen_def_o0 at hm
 obtain ⟨x1,hx2,hm⟩ :=ob hm
 obtain ⟨x3,hx4,hm⟩ :=ob hm
 obtain ⟨x5,hx6,hm⟩ :=ob hm
 obtain ⟨x7,hx8,hm⟩ :=ob hm
 obtain ⟨x9,hx10,hm⟩ :=ob hm
 obtain ⟨x11,hx12,hm⟩ :=ob hm
 obtain ⟨x13,hx14,hm⟩ :=ob hm
 obtain ⟨x15,hx16,hm⟩ :=ob hm
 cases hm
 exact sr<|js (qq (i:=2) ot)<|nt<|sr<|js (qa ot)<|js (qc ot (fp pl45))<|js (qd ot fo_api_Def_0 ty9)<|js (qg (σ:=[(0, 0)]) oF (shelf_pen_text_o0_con (api_Def.Name a1) o0 _ hx2) call103 (.cons ot (Ren.bp rfl) (.cons ot Ren.dat .nil)) .nil (.bld rfl .nil) (RenB.tup .nil))<|nt<|sr<|js (qa ot)<|js (qc ot (fp pl45))<|js (qd ot fo_api_Def_1 ty40)<|js (qa ot)<|js (qG (Caps.cons ot (Caps.nil (xs := []))))<|js (qg (σ:=[(0, 0)]) oF (shelf_list_string_o0__shelf_pen_text_o0_con (api_Def.Globs a1) x1 _ hx4) call119 (.cons ot (Ren.bp rfl) (.cons ot Ren.dat (.cons ot (Ren.bm (.cons (Ren.bp rfl) .nil)) .nil))) .nil (.bld rfl .nil) (RenB.tup .nil))<|nt<|sr<|js (qa ot)<|js (qc ot (fp pl45))<|js (qd ot fo_api_Def_2 ty41)<|js (qa ot)<|js (qG (Caps.cons ot (Caps.nil (xs := []))))<|js (qg (σ:=[(0, 0)]) oF (shelf_list_api_Pred_o0__shelf_pen_where_o0_con (api_Def.Where a1) x3 _ hx6) call156 (.cons ot (Ren.bp rfl) (.cons ot Ren.dat (.cons ot (Ren.bm (.cons (Ren.bp rfl) .nil)) .nil))) .nil (.bld rfl .nil) (RenB.tup .nil))<|nt<|sr<|js (qa ot)<|js (qc ot (fp pl45))<|js (qd ot fo_api_Def_3 ty9)<|js (qg (σ:=[(0, 0)]) oF (shelf_pen_text_o0_con (api_Def.Key a1) x5 _ hx8) call103 (.cons ot (Ren.bp rfl) (.cons ot Ren.dat .nil)) .nil (.bld rfl .nil) (RenB.tup .nil))<|nt<|sr<|js (qa ot)<|js (qc ot (fp pl45))<|js (qc ot (fp pl43))<|js (qd ot (FieldOf.comp fo_api_Def_4 fo_api_Join_0) ty9)<|js (qg (σ:=[(0, 0)]) oF (shelf_pen_text_o0_con (api_Join.Kind (api_Def.J a1)) x7 _ hx10) call103 (.cons ot (Ren.bp rfl) (.cons ot Ren.dat .nil)) .nil (.bld rfl .nil) (RenB.tup .nil))<|nt<|sr<|js (qa ot)<|js (qc ot (fp pl45))<|js (qc ot (fp pl43))<|js (qd ot (FieldOf.comp fo_api_Def_4 fo_api_Join_1) ty3)<|js (qg (σ:=[(0, 0)]) oF (shelf_pen_number_o0_con (api_Join.Parts (api_Def.J a1)) x9 _ hx12) call63 (.cons ot (Ren.bp rfl) (.cons ot Ren.dat .nil)) .nil (.bld rfl .nil) (RenB.tup .nil))<|nt<|sr<|js (qa ot)<|js (qc ot (fp pl45))<|js (qc ot (fp pl43))<|js (qd ot (FieldOf.comp fo_api_Def_4 fo_api_Join_2) ty3)<|js (qg (σ:=[(0, 0)]) oF (shelf_pen_number_o0_con (api_Join.Need (api_Def.J a1)) x11 _ hx14) call63 (.cons ot (Ren.bp rfl) (.cons ot Ren.dat .nil)) .nil (.bld rfl .nil) (RenB.tup .nil))<|nt<|cr<|js (qa ot)<|js (qc ot (fp pl45))<|js (qc ot (fp pl43))<|js (qd ot (FieldOf.comp fo_api_Def_4 fo_api_Join_3) ty3)<|js (qg (σ:=[(0, 0)]) oF (shelf_pen_number_o0_con (api_Join.Window (api_Def.J a1)) x13 _ hx16) call63 (.cons ot (Ren.bp rfl) (.cons ot Ren.dat .nil)) .nil (.bld rfl .nil) (RenB.tup .nil))<|jn<|JE.end0<|JE.retS0 hk (.bld rfl .nil) (.bld rfl .nil) rfl
theorem shelf_pen_off_o0_con (a1) (o0) (r) (hm : shelf_pen_off_o0 a1 o0 = some r) : SC 121 [(0,Bld 79 o0)] [BP 0 0,D R_api_Off a1] [(0,Bld 79 r)] (TUP []) := by
 refine SI func121 (fun gs=>[(0, BldAt (IsV (gs 0)) 79 o0)]) (fun gs=>(.bld .nil)) fun w O gs own hk=>?_
 unfold shelf_pen_off_o0 at hm
 obtain ⟨x1,hx2,hm⟩ :=ob hm
 obtain ⟨x3,hx4,hm⟩ :=ob hm
 cases hm
 exact sr<|js (qq (i:=2) ot)<|nt<|sr<|js (qa ot)<|js (qc ot (fp pl123))<|js (qd ot fo_api_Off_0 ty9)<|js (qg (σ:=[(0, 0)]) oF (shelf_pen_text_o0_con (api_Off.Topic a1) o0 _ hx2) call103 (.cons ot (Ren.bp rfl) (.cons ot Ren.dat .nil)) .nil (.bld rfl .nil) (RenB.tup .nil))<|nt<|cr<|js (qa ot)<|js (qc ot (fp pl123))<|js (qd ot fo_api_Off_1 ty3)<|js (qg (σ:=[(0, 0)]) oF (shelf_pen_number_o0_con (api_Off.Next a1) x1 _ hx4) call63 (.cons ot (Ren.bp rfl) (.cons ot Ren.dat .nil)) .nil (.bld rfl .nil) (RenB.tup .nil))<|jn<|JE.end0<|JE.retS0 hk (.bld rfl .nil) (.bld rfl .nil) rfl
theorem shelf_list_api_Off_o0__shelf_pen_off_o0_con (a1) (o0) (r) (hm : shelf_list_api_Off_o0__shelf_pen_off_o0 a1 o0 = some r) : SC 120 [(0,Bld 79 o0)] [BP 0 0,D (RSlice R_api_Off) a1,BM 121 [BP 0 0]] [(0,Bld 79 r)] (TUP []) := by
 refine SI func120 (fun gs=>[(0, BldAt (IsV (gs 0)) 79 o0)]) (fun gs=>(.bld .nil)) fun w O gs own hk=>?_
 unfold shelf_list_api_Off_o0__shelf_pen_off_o0 at hm
 obtain ⟨x1,hx2,hm⟩ :=ob hm
 obtain ⟨v13,hl14,hm⟩ :=ob hm
 refine sr<|js (qa ot)<|js (qa ot)<|js (qf ot u63)<|js (qA ot u3 u46)<|js (qg (σ:=[(0, 0)]) oF (shelf_pen_id_o0_con (IntKind.u64.wrap (List.length a1 : Int)) o0 _ hx2) call105 (.cons ot (Ren.bp rfl) (.cons ot Ren.dat .nil)) .nil (.bld rfl .nil) (RenB.tup .nil))<|nt<|sr<|js (qa ot)<|js (qf ot u63)<|js (qa oi)<|nt<|JC.join [] [(0, BldAt (IsV (gs 0)) 79 v13)] ?_ (fun _ hK15=>?_)
 ·cases hm
  exact JE.end0<|JE.retS0 hk (.bld rfl .nil) (.bld rfl .nil) rfl
 ·refine cb<|JC.loop _ (fun s21=>[(2, BM 121 [BP 0 0]), (13, D (RSlice R_api_Off) a1), (14, D (RInt .i64) (List.length a1 : Int)), (15, D (RInt .i64) s21.1)]) (fun s21=>[(0, BldAt (IsV (gs 0)) 79 s21.2)]) _ ?_ _ hl14 ml
  intro s21 r20 _ hs17 hB18 hE19
  obtain ⟨v7, v8⟩ := s21
  try dsimp only at hs17
  refine sr<|js (qh ot ot)<|nt<|cs<|cn ot hs17 (fun hc23 hs17=>?_) fun hc23 hs17=>?_
  ·obtain ⟨hb24,hs17⟩ :=og hs17
   obtain ⟨x25,hx26,hs17⟩ :=ob hs17
   cases hs17
   exact ck<|tn<|cs<|cb<|sr<|js (qj ot ot u63 ty123 hb24)<|js (qi ot ty123)<|js (qp (i:=4) zero123)<|js (qo ot ot ty123)<|nt<|cr<|js (qa ot)<|js (qn ot ty123)<|js (qH (σ:=[(0, 0)]) ot (shelf_pen_off_o0_con (nth a1 v7) v8 _ hx26) call121 (.cons ot Ren.dat .nil) (.cons (Ren.bp rfl) .nil) (.bld rfl .nil) (RenB.tup .nil))<|jn<|bn<|tn<|cr<|js (qk ot oi)<|js (qa ot)<|jn<|mt (hB18 _ rfl)
  ·cases hs17
   cases (hE19 _ rfl)
   exact cx<|tx<|tx<|bx<|mt hK15
theorem val_Lay_con (a0) (r) (hm : val_Lay a0 = some r) : PC 175 [D R_api_Value a0] (TUP [D RStr r.1,D (RInt .i64) r.2]) := by
 refine PI func175 fun w O=>?_
 unfold val_Lay at hm
 refine sr<|js (qq (i:=1) ot)<|js (qb oS)<|js (qb oi)<|nt<|cs<|sr<|js (qn ot ty118)<|js (qe oF (val_May_con a0 _ rfl) call203 (ze zn))<|js (qr ot)<|nt<|cn ot hm (fun hc1 hm=>?_) fun hc1 hm=>?_
 ·cases hm
  exact sr<|js (qb oS)<|js (qb oi)<|nt<|ct<|tr<|JE.retB rfl (RvOK.tmp rfl) (RvOK.tmp rfl)
 ·refine ck<|tn<|cs<|sr<|js (qc ot (fp pl118))<|js (qd ot fo_api_Value_0 ty4)<|nt<|cn ot hm (fun hc2 hm=>?_) fun hc2 hm=>?_
  ·obtain ⟨x3,hx4,hm⟩ :=ob hm
   obtain ⟨hb5,hm⟩ :=og hm
   refine cs<|cd mixed (da [] (gu (qC u75 ty5 hz5 (.cons oi .nil)))<|da [9] (gu (va ot u75 u5 u9))<|da [1] (gu (qc (off:=1) ot (fp pl118)))<|db [11] [1] [] (gu (qd (get:=fun d => api_Value.N d) ot fo_api_Value_1 ty2))<|da [12] (gu (qe oF (num_Fold_con (api_Value.N a0) _ rfl) call118 (zc (zo ot) zn)))<|da [13] (gu (qe oF (num_Pack_con (num_Fold (api_Value.N a0)) _ hx4) call155 (zc (zo ot) zn)))<|da [10,14] (gu (qM ot ot hb5))<|an)<|jv [15] [] ?_
   cases hm
   exact js (qb ot)<|js (qb oi)<|nt<|ct<|tr<|JE.retB rfl (RvOK.tmp rfl) (RvOK.tmp rfl)
  ·obtain ⟨x6,hx7,hm⟩ :=ob hm
   obtain ⟨hb8,hm⟩ :=og hm
   obtain ⟨hb9,hm⟩ :=og hm
   refine ck<|tn<|cs<|cd mixed (da [] (gu (qC u75 ty5 hz5 (.cons oi .nil)))<|da [16] (gu (va ot u75 u5 u9))<|da [1] (gu (qc (off:=2) ot (fp pl118)))<|db [18] [1] [] (gu (qd (get:=fun d => api_Value.S d) ot fo_api_Value_2 ty9))<|da [19] (gu (qD ot u9))<|da [20] (gu (qA ot u3 u46))<|da [21] (gu (qe oF (num_Pack_con (IntKind.u64.wrap (List.length (api_Value.S a0) : Int)) _ hx7) call155 (zc (zo ot) zn)))<|da [17,22] (gu (qM ot ot hb8))<|da [1] (gu (qc (off:=2) ot (fp pl118)))<|db [24] [1] [] (gu (qd (get:=fun d => api_Value.S d) ot fo_api_Value_2 ty9))<|da [23,25] (gu (qM ot ot hb9))<|an)<|jv [26] [] ?_
   cases hm
   exact js (qb ot)<|js (qb oi)<|nt<|ct<|JE.retB rfl (RvOK.tmp rfl) (RvOK.tmp rfl)
theorem shelf_pen_kept_o0_con (a1) (o0) (r) (hm : shelf_pen_kept_o0 a1 o0 = some r) : SC 177 [(0,Bld 79 o0)] [BP 0 0,D R_api_Kept a1] [(0,Bld 79 r)] (TUP []) := by
 refine SI func177 (fun gs=>[(0, BldAt (IsV (gs 0)) 79 o0)]) (fun gs=>(.bld .nil)) fun w O gs own hk=>?_
 unfold shelf_pen_kept_o0 at hm
 obtain ⟨x1,hx2,hm⟩ :=ob hm
 obtain ⟨x3,hx4,hm⟩ :=ob hm
 obtain ⟨x5,hx6,hm⟩ :=ob hm
 cases hm
 exact sr<|js (qq (i:=2) ot)<|nt<|sr<|js (qa ot)<|js (qc ot (fp pl153))<|js (qd ot fo_api_Kept_0 ty3)<|js (qg (σ:=[(0, 0)]) oF (shelf_pen_number_o0_con (api_Kept.Part a1) o0 _ hx2) call63 (.cons ot (Ren.bp rfl) (.cons ot Ren.dat .nil)) .nil (.bld rfl .nil) (RenB.tup .nil))<|nt<|sr<|js (qa ot)<|js (qc ot (fp pl153))<|js (qd ot fo_api_Kept_1 ty46)<|js (qg (σ:=[(0, 0)]) oF (shelf_pen_id_o0_con (api_Kept.Id a1) x1 _ hx4) call105 (.cons ot (Ren.bp rfl) (.cons ot Ren.dat .nil)) .nil (.bld rfl .nil) (RenB.tup .nil))<|nt<|cr<|js (qa ot)<|js (qc ot (fp pl153))<|js (qd ot fo_api_Kept_2 ty3)<|js (qg (σ:=[(0, 0)]) oF (shelf_pen_number_o0_con (api_Kept.At a1) x3 _ hx6) call63 (.cons ot (Ren.bp rfl) (.cons ot Ren.dat .nil)) .nil (.bld rfl .nil) (RenB.tup .nil))<|jn<|JE.end0<|JE.retS0 hk (.bld rfl .nil) (.bld rfl .nil) rfl
theorem shelf_list_api_Kept_o0__shelf_pen_kept_o0_con (a1) (o0) (r) (hm : shelf_list_api_Kept_o0__shelf_pen_kept_o0 a1 o0 = some r) : SC 176 [(0,Bld 79 o0)] [BP 0 0,D (RSlice R_api_Kept) a1,BM 177 [BP 0 0]] [(0,Bld 79 r)] (TUP []) := by
 refine SI func176 (fun gs=>[(0, BldAt (IsV (gs 0)) 79 o0)]) (fun gs=>(.bld .nil)) fun w O gs own hk=>?_
 unfold shelf_list_api_Kept_o0__shelf_pen_kept_o0 at hm
 obtain ⟨x1,hx2,hm⟩ :=ob hm
 obtain ⟨v13,hl14,hm⟩ :=ob hm
 refine sr<|js (qa ot)<|js (qa ot)<|js (qf ot u125)<|js (qA ot u3 u46)<|js (qg (σ:=[(0, 0)]) oF (shelf_pen_id_o0_con (IntKind.u64.wrap (List.length a1 : Int)) o0 _ hx2) call105 (.cons ot (Ren.bp rfl) (.cons ot Ren.dat .nil)) .nil (.bld rfl .nil) (RenB.tup .nil))<|nt<|sr<|js (qa ot)<|js (qf ot u125)<|js (qa oi)<|nt<|JC.join [] [(0, BldAt (IsV (gs 0)) 79 v13)] ?_ (fun _ hK15=>?_)
 ·cases hm
  exact JE.end0<|JE.retS0 hk (.bld rfl .nil) (.bld rfl .nil) rfl
 ·refine cb<|JC.loop _ (fun s21=>[(2, BM 177 [BP 0 0]), (13, D (RSlice R_api_Kept) a1), (14, D (RInt .i64) (List.length a1 : Int)), (15, D (RInt .i64) s21.1)]) (fun s21=>[(0, BldAt (IsV (gs 0)) 79 s21.2)]) _ ?_ _ hl14 ml
  intro s21 r20 _ hs17 hB18 hE19
  obtain ⟨v7, v8⟩ := s21
  try dsimp only at hs17
  refine sr<|js (qh ot ot)<|nt<|cs<|cn ot hs17 (fun hc23 hs17=>?_) fun hc23 hs17=>?_
  ·obtain ⟨hb24,hs17⟩ :=og hs17
   obtain ⟨x25,hx26,hs17⟩ :=ob hs17
   cases hs17
   exact ck<|tn<|cs<|cb<|sr<|js (qj ot ot u125 ty153 hb24)<|js (qi ot ty153)<|js (qp (i:=4) zero153)<|js (qo ot ot ty153)<|nt<|cr<|js (qa ot)<|js (qn ot ty153)<|js (qH (σ:=[(0, 0)]) ot (shelf_pen_kept_o0_con (nth a1 v7) v8 _ hx26) call177 (.cons ot Ren.dat .nil) (.cons (Ren.bp rfl) .nil) (.bld rfl .nil) (RenB.tup .nil))<|jn<|bn<|tn<|cr<|js (qk ot oi)<|js (qa ot)<|jn<|mt (hB18 _ rfl)
  ·cases hs17
   cases (hE19 _ rfl)
   exact cx<|tx<|tx<|bx<|mt hK15
theorem shelf_pen_inst_o0_con (a1) (o0) (r) (hm : shelf_pen_inst_o0 a1 o0 = some r) : SC 123 [(0,Bld 79 o0)] [BP 0 0,D R_api_Inst a1] [(0,Bld 79 r)] (TUP []) := by
 refine SI func123 (fun gs=>[(0, BldAt (IsV (gs 0)) 79 o0)]) (fun gs=>(.bld .nil)) fun w O gs own hk=>?_
 unfold shelf_pen_inst_o0 at hm
 obtain ⟨x1,hx2,hm⟩ :=ob hm
 obtain ⟨x3,hx4,hm⟩ :=ob hm
 obtain ⟨x5,hx6,hm⟩ :=ob hm
 cases hm
 exact sr<|js (qq (i:=2) ot)<|nt<|sr<|js (qc ot (fp pl127))<|js (qd ot fo_api_Inst_0 ty118)<|js (qe oF (val_Lay_con (api_Inst.Key a1) _ hx2) call175 (ze zn))<|js (qa ot)<|js (qu ot)<|js (qu ot)<|js (qb ot)<|js (qb ot)<|nt<|sr<|js (qa ot)<|js (qt ot)<|js (qc ot (fp pl79))<|js (qa ot)<|js (qg (σ:=[(0, 0)]) oF (strings_Builder_WriteString_con bld79 (by decide) x1.1 o0 _ hx4) call153 (.cons ot (Ren.bp rfl) (.cons ot Ren.dat .nil)) .nil (.bld rfl .nil) (RenB.tup (.cons (.cons .nil))))<|nt<|cr<|js (qa ot)<|js (qc ot (fp pl127))<|js (qd ot fo_api_Inst_1 ty125)<|js (qa ot)<|js (qG (Caps.cons ot (Caps.nil (xs := []))))<|js (qg (σ:=[(0, 0)]) oF (shelf_list_api_Kept_o0__shelf_pen_kept_o0_con (api_Inst.L a1) x3.2.2 _ hx6) call176 (.cons ot (Ren.bp rfl) (.cons ot Ren.dat (.cons ot (Ren.bm (.cons (Ren.bp rfl) .nil)) .nil))) .nil (.bld rfl .nil) (RenB.tup .nil))<|jn<|JE.end0<|JE.retS0 hk (.bld rfl .nil) (.bld rfl .nil) rfl
theorem shelf_list_api_Inst_o0__shelf_pen_inst_o0_con (a1) (o0) (r) (hm : shelf_list_api_Inst_o0__shelf_pen_inst_o0 a1 o0 = some r) : SC 122 [(0,Bld 79 o0)] [BP 0 0,D (RSlice R_api_Inst) a1,BM 123 [BP 0 0]] [(0,Bld 79 r)] (TUP []) := by
 refine SI func122 (fun gs=>[(0, BldAt (IsV (gs 0)) 79 o0)]) (fun gs=>(.bld .nil)) fun w O gs own hk=>?_
 unfold shelf_list_api_Inst_o0__shelf_pen_inst_o0 at hm
 obtain ⟨x1,hx2,hm⟩ :=ob hm
 obtain ⟨v13,hl14,hm⟩ :=ob hm
 refine sr<|js (qa ot)<|js (qa ot)<|js (qf ot u64)<|js (qA ot u3 u46)<|js (qg (σ:=[(0, 0)]) oF (shelf_pen_id_o0_con (IntKind.u64.wrap (List.length a1 : Int)) o0 _ hx2) call105 (.cons ot (Ren.bp rfl) (.cons ot Ren.dat .nil)) .nil (.bld rfl .nil) (RenB.tup .nil))<|nt<|sr<|js (qa ot)<|js (qf ot u64)<|js (qa oi)<|nt<|JC.join [] [(0, BldAt (IsV (gs 0)) 79 v13)] ?_ (fun _ hK15=>?_)
 ·cases hm
  exact JE.end0<|JE.retS0 hk (.bld rfl .nil) (.bld rfl .nil) rfl
 ·refine cb<|JC.loop _ (fun s21=>[(2, BM 123 [BP 0 0]), (13, D (RSlice R_api_Inst) a1), (14, D (RInt .i64) (List.length a1 : Int)), (15, D (RInt .i64) s21.1)]) (fun s21=>[(0, BldAt (IsV (gs 0)) 79 s21.2)]) _ ?_ _ hl14 ml
  intro s21 r20 _ hs17 hB18 hE19
  obtain ⟨v7, v8⟩ := s21
  try dsimp only at hs17
  refine sr<|js (qh ot ot)<|nt<|cs<|cn ot hs17 (fun hc23 hs17=>?_) fun hc23 hs17=>?_
  ·obtain ⟨hb24,hs17⟩ :=og hs17
   obtain ⟨x25,hx26,hs17⟩ :=ob hs17
   cases hs17
   exact ck<|tn<|cs<|cb<|sr<|js (qj ot ot u64 ty127 hb24)<|js (qi ot ty127)<|js (qp (i:=4) zero127)<|js (qo ot ot ty127)<|nt<|cr<|js (qa ot)<|js (qn ot ty127)<|js (qH (σ:=[(0, 0)]) ot (shelf_pen_inst_o0_con (nth a1 v7) v8 _ hx26) call123 (.cons ot Ren.dat .nil) (.cons (Ren.bp rfl) .nil) (.bld rfl .nil) (RenB.tup .nil))<|jn<|bn<|tn<|cr<|js (qk ot oi)<|js (qa ot)<|jn<|mt (hB18 _ rfl)
  ·cases hs17
   cases (hE19 _ rfl)
   exact cx<|tx<|tx<|bx<|mt hK15
theorem shelf_pen_sub_o0_con (a1) (o0) (r) (hm : shelf_pen_sub_o0 a1 o0 = some r) : SC 69 [(0,Bld 79 o0)] [BP 0 0,D R_api_Sub a1] [(0,Bld 79 r)] (TUP []) := by
 refine SI func69 (fun gs=>[(0, BldAt (IsV (gs 0)) 79 o0)]) (fun gs=>(.bld .nil)) fun w O gs own hk=>?_
 unfold shelf_pen_sub_o0 at hm
 obtain ⟨x1,hx2,hm⟩ :=ob hm
 obtain ⟨x3,hx4,hm⟩ :=ob hm
 obtain ⟨x5,hx6,hm⟩ :=ob hm
 obtain ⟨v17,hl18,hm⟩ :=ob hm
 refine sr<|js (qq (i:=2) ot)<|nt<|sr<|js (qa ot)<|js (qc ot (fp pl66))<|js (qd ot fo_api_Sub_0 ty45)<|js (qg (σ:=[(0, 0)]) oF (shelf_pen_def_o0_con (api_Sub.D a1) o0 _ hx2) call106 (.cons ot (Ren.bp rfl) (.cons ot Ren.dat .nil)) .nil (.bld rfl .nil) (RenB.tup .nil))<|nt<|sr<|js (qa ot)<|js (qc ot (fp pl66))<|js (qd ot fo_api_Sub_1 ty63)<|js (qa ot)<|js (qG (Caps.cons ot (Caps.nil (xs := []))))<|js (qg (σ:=[(0, 0)]) oF (shelf_list_api_Off_o0__shelf_pen_off_o0_con (api_Sub.Offs a1) x1 _ hx4) call120 (.cons ot (Ren.bp rfl) (.cons ot Ren.dat (.cons ot (Ren.bm (.cons (Ren.bp rfl) .nil)) .nil))) .nil (.bld rfl .nil) (RenB.tup .nil))<|nt<|sr<|js (qa ot)<|js (qc ot (fp pl66))<|js (qd ot fo_api_Sub_2 ty64)<|js (qa ot)<|js (qG (Caps.cons ot (Caps.nil (xs := []))))<|js (qg (σ:=[(0, 0)]) oF (shelf_list_api_Inst_o0__shelf_pen_inst_o0_con (api_Sub.Insts a1) x3 _ hx6) call122 (.cons ot (Ren.bp rfl) (.cons ot Ren.dat (.cons ot (Ren.bm (.cons (Ren.bp rfl) .nil)) .nil))) .nil (.bld rfl .nil) (RenB.tup .nil))<|nt<|sr<|js (qc ot (fp pl66))<|js (qd ot fo_api_Sub_3 ty3)<|js (qc ot (fp pl66))<|js (qd ot fo_api_Sub_4 ty3)<|js (qc ot (fp pl66))<|js (qd ot fo_api_Sub_5 ty3)<|js (qc ot (fp pl66))<|js (qd ot fo_api_Sub_6 ty3)<|js (qc ot (fp pl66))<|js (qd ot fo_api_Sub_7 ty3)<|js (vo u192 ty3 zero192 (.cons ot (.cons ot (.cons ot (.cons ot (.cons ot .nil))))))<|js (qa oi)<|nt<|JC.join [] [(0, BldAt (IsV (gs 0)) 79 v17)] ?_ (fun _ hK19=>?_)
 ·cases hm
  exact JE.end0<|JE.retS0 hk (.bld rfl .nil) (.bld rfl .nil) rfl
 ·refine cb<|JC.loop _ (fun s25=>[(0, BP 0 0), (32, D (RArr 5 (RInt .i64)) ([api_Sub.Fails a1, api_Sub.Taken a1, api_Sub.Passes a1, api_Sub.Fires a1, api_Sub.Over a1] : (List Int))), (33, D (RInt .i64) s25.1)]) (fun s25=>[(0, BldAt (IsV (gs 0)) 79 s25.2)]) _ ?_ _ hl18 ml
  intro s25 r24 _ hs21 hB22 hE23
  obtain ⟨v11, v12⟩ := s25
  try dsimp only at hs21
  refine sr<|js (qh ot oi)<|nt<|cs<|cn ot hs21 (fun hc27 hs21=>?_) fun hc27 hs21=>?_
  ·obtain ⟨hb28,hs21⟩ :=og hs21
   obtain ⟨x29,hx30,hs21⟩ :=ob hs21
   cases hs21
   exact ck<|tn<|cs<|cb<|sr<|js (vq ot ot u192 ty3 hb28)<|js (qb ot)<|nt<|cr<|js (qa ot)<|js (qa ot)<|js (qg (σ:=[(0, 0)]) oF (shelf_pen_number_o0_con (nth ([api_Sub.Fails a1, api_Sub.Taken a1, api_Sub.Passes a1, api_Sub.Fires a1, api_Sub.Over a1] : (List Int)) v11) v12 _ hx30) call63 (.cons ot (Ren.bp rfl) (.cons ot Ren.dat .nil)) .nil (.bld rfl .nil) (RenB.tup .nil))<|jn<|bn<|tn<|cr<|js (qk ot oi)<|js (qa ot)<|jn<|mt (hB22 _ rfl)
  ·cases hs21
   cases (hE23 _ rfl)
   exact cx<|tx<|tx<|bx<|mt hK19
theorem shelf_list_api_Sub_o0__shelf_pen_sub_o0_con (a1) (o0) (r) (hm : shelf_list_api_Sub_o0__shelf_pen_sub_o0 a1 o0 = some r) : SC 68 [(0,Bld 79 o0)] [BP 0 0,D (RSlice R_api_Sub) a1,BM 69 [BP 0 0]] [(0,Bld 79 r)] (TUP []) := by
 refine SI func68 (fun gs=>[(0, BldAt (IsV (gs 0)) 79 o0)]) (fun gs=>(.bld .nil)) fun w O gs own hk=>?_
 unfold shelf_list_api_Sub_o0__shelf_pen_sub_o0 at hm
 obtain ⟨x1,hx2,hm⟩ :=ob hm
 obtain ⟨v13,hl14,hm⟩ :=ob hm
 refine sr<|js (qa ot)<|js (qa ot)<|js (qf ot u24)<|js (qA ot u3 u46)<|js (qg (σ:=[(0, 0)]) oF (shelf_pen_id_o0_con (IntKind.u64.wrap (List.length a1 : Int)) o0 _ hx2) call105 (.cons ot (Ren.bp rfl) (.cons ot Ren.dat .nil)) .nil (.bld rfl .nil) (RenB.tup .nil))<|nt<|sr<|js (qa ot)<|js (qf ot u24)<|js (qa oi)<|nt<|JC.join [] [(0, BldAt (IsV (gs 0)) 79 v13)] ?_ (fun _ hK15=>?_)
 ·cases hm
  exact JE.end0<|JE.retS0 hk (.bld rfl .nil) (.bld rfl .nil) rfl
 ·refine cb<|JC.loop _ (fun s21=>[(2, BM 69 [BP 0 0]), (13, D (RSlice R_api_Sub) a1), (14, D (RInt .i64) (List.length a1 : Int)), (15, D (RInt .i64) s21.1)]) (fun s21=>[(0, BldAt (IsV (gs 0)) 79 s21.2)]) _ ?_ _ hl14 ml
  intro s21 r20 _ hs17 hB18 hE19
  obtain ⟨v7, v8⟩ := s21
  try dsimp only at hs17
  refine sr<|js (qh ot ot)<|nt<|cs<|cn ot hs17 (fun hc23 hs17=>?_) fun hc23 hs17=>?_
  ·obtain ⟨hb24,hs17⟩ :=og hs17
   obtain ⟨x25,hx26,hs17⟩ :=ob hs17
   cases hs17
   exact ck<|tn<|cs<|cb<|sr<|js (qj ot ot u24 ty66 hb24)<|js (qi ot ty66)<|js (qp (i:=4) zero66)<|js (qo ot ot ty66)<|nt<|cr<|js (qa ot)<|js (qn ot ty66)<|js (qH (σ:=[(0, 0)]) ot (shelf_pen_sub_o0_con (nth a1 v7) v8 _ hx26) call69 (.cons ot Ren.dat .nil) (.cons (Ren.bp rfl) .nil) (.bld rfl .nil) (RenB.tup .nil))<|jn<|bn<|tn<|cr<|js (qk ot oi)<|js (qa ot)<|jn<|mt (hB18 _ rfl)
  ·cases hs17
   cases (hE19 _ rfl)
   exact cx<|tx<|tx<|bx<|mt hK15
theorem shelf_list_uint64_o0__shelf_pen_id_o0_con (a1) (o0) (r) (hm : shelf_list_uint64_o0__shelf_pen_id_o0 a1 o0 = some r) : SC 124 [(0,Bld 79 o0)] [BP 0 0,D (RSlice (RInt .u64)) a1,BM 105 [BP 0 0]] [(0,Bld 79 r)] (TUP []) := by
 refine SI func124 (fun gs=>[(0, BldAt (IsV (gs 0)) 79 o0)]) (fun gs=>(.bld .nil)) fun w O gs own hk=>?_
 unfold shelf_list_uint64_o0__shelf_pen_id_o0 at hm
 obtain ⟨x1,hx2,hm⟩ :=ob hm
 obtain ⟨v13,hl14,hm⟩ :=ob hm
 refine sr<|js (qa ot)<|js (qa ot)<|js (qf ot u86)<|js (qA ot u3 u46)<|js (qg (σ:=[(0, 0)]) oF (shelf_pen_id_o0_con (IntKind.u64.wrap (List.length a1 : Int)) o0 _ hx2) call105 (.cons ot (Ren.bp rfl) (.cons ot Ren.dat .nil)) .nil (.bld rfl .nil) (RenB.tup .nil))<|nt<|sr<|js (qa ot)<|js (qf ot u86)<|js (qa oi)<|nt<|JC.join [] [(0, BldAt (IsV (gs 0)) 79 v13)] ?_ (fun _ hK15=>?_)
 ·cases hm
  exact JE.end0<|JE.retS0 hk (.bld rfl .nil) (.bld rfl .nil) rfl
 ·refine cb<|JC.loop _ (fun s21=>[(2, BM 105 [BP 0 0]), (13, D (RSlice (RInt .u64)) a1), (14, D (RInt .i64) (List.length a1 : Int)), (15, D (RInt .i64) s21.1)]) (fun s21=>[(0, BldAt (IsV (gs 0)) 79 s21.2)]) _ ?_ _ hl14 ml
  intro s21 r20 _ hs17 hB18 hE19
  obtain ⟨v7, v8⟩ := s21
  try dsimp only at hs17
  refine sr<|js (qh ot ot)<|nt<|cs<|cn ot hs17 (fun hc23 hs17=>?_) fun hc23 hs17=>?_
  ·obtain ⟨hb24,hs17⟩ :=og hs17
   obtain ⟨x25,hx26,hs17⟩ :=ob hs17
   cases hs17
   exact ck<|tn<|cs<|cb<|sr<|js (qj ot ot u86 ty46 hb24)<|js (qi ot ty46)<|js (qb ot)<|nt<|cr<|js (qa ot)<|js (qa ot)<|js (qH (σ:=[(0, 0)]) ot (shelf_pen_id_o0_con (nth a1 v7) v8 _ hx26) call105 (.cons ot Ren.dat .nil) (.cons (Ren.bp rfl) .nil) (.bld rfl .nil) (RenB.tup .nil))<|jn<|bn<|tn<|cr<|js (qk ot oi)<|js (qa ot)<|jn<|mt (hB18 _ rfl)
  ·cases hs17
   cases (hE19 _ rfl)
   exact cx<|tx<|tx<|bx<|mt hK15
theorem shelf_pen_out_o0_con (a1) (o0) (r) (hm : shelf_pen_out_o0 a1 o0 = some r) : SC 71 [(0,Bld 79 o0)] [BP 0 0,D R_api_Out a1] [(0,Bld 79 r)] (TUP []) := by
 refine SI func71 (fun gs=>[(0, BldAt (IsV (gs 0)) 79 o0)]) (fun gs=>(.bld .nil)) fun w O gs own hk=>?_
 unfold shelf_pen_out_o0 at hm
 obtain ⟨x1,hx2,hm⟩ :=ob hm
 obtain ⟨x3,hx4,hm⟩ :=ob hm
 obtain ⟨x5,hx6,hm⟩ :=ob hm
 obtain ⟨x7,hx8,hm⟩ :=ob hm
 obtain ⟨x9,hx10,hm⟩ :=ob hm
 cases hm
 exact sr<|js (qq (i:=2) ot)<|nt<|sr<|js (qa ot)<|js (qc ot (fp pl88))<|js (qd ot fo_api_Out_0 ty46)<|js (qg (σ:=[(0, 0)]) oF (shelf_pen_id_o0_con (api_Out.Id a1) o0 _ hx2) call105 (.cons ot (Ren.bp rfl) (.cons ot Ren.dat .nil)) .nil (.bld rfl .nil) (RenB.tup .nil))<|nt<|sr<|js (qa ot)<|js (qc ot (fp pl88))<|js (qd ot fo_api_Out_1 ty9)<|js (qg (σ:=[(0, 0)]) oF (shelf_pen_text_o0_con (api_Out.Sub a1) x1 _ hx4) call103 (.cons ot (Ren.bp rfl) (.cons ot Ren.dat .nil)) .nil (.bld rfl .nil) (RenB.tup .nil))<|nt<|sr<|js (qa ot)<|js (qc ot (fp pl88))<|js (qd ot fo_api_Out_2 ty86)<|js (qa ot)<|js (qG (Caps.cons ot (Caps.nil (xs := []))))<|js (qg (σ:=[(0, 0)]) oF (shelf_list_uint64_o0__shelf_pen_id_o0_con (api_Out.Ids a1) x3 _ hx6) call124 (.cons ot (Ren.bp rfl) (.cons ot Ren.dat (.cons ot (Ren.bm (.cons (Ren.bp rfl) .nil)) .nil))) .nil (.bld rfl .nil) (RenB.tup .nil))<|nt<|sr<|js (qa ot)<|js (qc ot (fp pl88))<|js (qd ot fo_api_Out_3 ty3)<|js (qg (σ:=[(0, 0)]) oF (shelf_pen_number_o0_con (api_Out.Tries a1) x5 _ hx8) call63 (.cons ot (Ren.bp rfl) (.cons ot Ren.dat .nil)) .nil (.bld rfl .nil) (RenB.tup .nil))<|nt<|cr<|js (qa ot)<|js (qc ot (fp pl88))<|js (qd ot fo_api_Out_4 ty3)<|js (qg (σ:=[(0, 0)]) oF (shelf_pen_number_o0_con (api_Out.Due a1) x7 _ hx10) call63 (.cons ot (Ren.bp rfl) (.cons ot Ren.dat .nil)) .nil (.bld rfl .nil) (RenB.tup .nil))<|jn<|JE.end0<|JE.retS0 hk (.bld rfl .nil) (.bld rfl .nil) rfl
theorem shelf_list_api_Out_o0__shelf_pen_out_o0_con (a1) (o0) (r) (hm : shelf_list_api_Out_o0__shelf_pen_out_o0 a1 o0 = some r) : SC 70 [(0,Bld 79 o0)] [BP 0 0,D (RSlice R_api_Out) a1,BM 71 [BP 0 0]] [(0,Bld 79 r)] (TUP []) := by
 refine SI func70 (fun gs=>[(0, BldAt (IsV (gs 0)) 79 o0)]) (fun gs=>(.bld .nil)) fun w O gs own hk=>?_
 unfold shelf_list_api_Out_o0__shelf_pen_out_o0 at hm
 obtain ⟨x1,hx2,hm⟩ :=ob hm
 obtain ⟨v13,hl14,hm⟩ :=ob hm
 refine sr<|js (qa ot)<|js (qa ot)<|js (qf ot u25)<|js (qA ot u3 u46)<|js (qg (σ:=[(0, 0)]) oF (shelf_pen_id_o0_con (IntKind.u64.wrap (List.length a1 : Int)) o0 _ hx2) call105 (.cons ot (Ren.bp rfl) (.cons ot Ren.dat .nil)) .nil (.bld rfl .nil) (RenB.tup .nil))<|nt<|sr<|js (qa ot)<|js (qf ot u25)<|js (qa oi)<|nt<|JC.join [] [(0, BldAt (IsV (gs 0)) 79 v13)] ?_ (fun _ hK15=>?_)
 ·cases hm
  exact JE.end0<|JE.retS0 hk (.bld rfl .nil) (.bld rfl .nil) rfl
 ·refine cb<|JC.loop _ (fun s21=>[(2, BM 71 [BP 0 0]), (13, D (RSlice R_api_Out) a1), (14, D (RInt .i64) (List.length a1 : Int)), (15, D (RInt .i64) s21.1)]) (fun s21=>[(0, BldAt (IsV (gs 0)) 79 s21.2)]) _ ?_ _ hl14 ml
  intro s21 r20 _ hs17 hB18 hE19
  obtain ⟨v7, v8⟩ := s21
  try dsimp only at hs17
  refine sr<|js (qh ot ot)<|nt<|cs<|cn ot hs17 (fun hc23 hs17=>?_) fun hc23 hs17=>?_
  ·obtain ⟨hb24,hs17⟩ :=og hs17
   obtain ⟨x25,hx26,hs17⟩ :=ob hs17
   cases hs17
   exact ck<|tn<|cs<|cb<|sr<|js (qj ot ot u25 ty88 hb24)<|js (qi ot ty88)<|js (qp (i:=4) zero88)<|js (qo ot ot ty88)<|nt<|cr<|js (qa ot)<|js (qn ot ty88)<|js (qH (σ:=[(0, 0)]) ot (shelf_pen_out_o0_con (nth a1 v7) v8 _ hx26) call71 (.cons ot Ren.dat .nil) (.cons (Ren.bp rfl) .nil) (.bld rfl .nil) (RenB.tup .nil))<|jn<|bn<|tn<|cr<|js (qk ot oi)<|js (qa ot)<|jn<|mt (hB18 _ rfl)
  ·cases hs17
   cases (hE19 _ rfl)
   exact cx<|tx<|tx<|bx<|mt hK15
theorem shelf_pen_dead_o0_con (a1) (o0) (r) (hm : shelf_pen_dead_o0 a1 o0 = some r) : SC 73 [(0,Bld 79 o0)] [BP 0 0,D R_api_Dead a1] [(0,Bld 79 r)] (TUP []) := by
 refine SI func73 (fun gs=>[(0, BldAt (IsV (gs 0)) 79 o0)]) (fun gs=>(.bld .nil)) fun w O gs own hk=>?_
 unfold shelf_pen_dead_o0 at hm
 obtain ⟨x1,hx2,hm⟩ :=ob hm
 obtain ⟨x3,hx4,hm⟩ :=ob hm
 cases hm
 exact sr<|js (qq (i:=2) ot)<|nt<|sr<|js (qa ot)<|js (qc ot (fp pl72))<|js (qd ot fo_api_Dead_0 ty9)<|js (qg (σ:=[(0, 0)]) oF (shelf_pen_text_o0_con (api_Dead.Sub a1) o0 _ hx2) call103 (.cons ot (Ren.bp rfl) (.cons ot Ren.dat .nil)) .nil (.bld rfl .nil) (RenB.tup .nil))<|nt<|cr<|js (qa ot)<|js (qc ot (fp pl72))<|js (qd ot fo_api_Dead_1 ty9)<|js (qg (σ:=[(0, 0)]) oF (shelf_pen_text_o0_con (api_Dead.E a1) x1 _ hx4) call103 (.cons ot (Ren.bp rfl) (.cons ot Ren.dat .nil)) .nil (.bld rfl .nil) (RenB.tup .nil))<|jn<|JE.end0<|JE.retS0 hk (.bld rfl .nil) (.bld rfl .nil) rfl
theorem shelf_list_api_Dead_o0__shelf_pen_dead_o0_con (a1) (o0) (r) (hm : shelf_list_api_Dead_o0__shelf_pen_dead_o0 a1 o0 = some r) : SC 72 [(0,Bld 79 o0)] [BP 0 0,D (RSlice R_api_Dead) a1,BM 73 [BP 0 0]] [(0,Bld 79 r)] (TUP []) := by
 refine SI func72 (fun gs=>[(0, BldAt (IsV (gs 0)) 79 o0)]) (fun gs=>(.bld .nil)) fun w O gs own hk=>?_
 unfold shelf_list_api_Dead_o0__shelf_pen_dead_o0 at hm
 obtain ⟨x1,hx2,hm⟩ :=ob hm
 obtain ⟨v13,hl14,hm⟩ :=ob hm
 refine sr<|js (qa ot)<|js (qa ot)<|js (qf ot u26)<|js (qA ot u3 u46)<|js (qg (σ:=[(0, 0)]) oF (shelf_pen_id_o0_con (IntKind.u64.wrap (List.length a1 : Int)) o0 _ hx2) call105 (.cons ot (Ren.bp rfl) (.cons ot Ren.dat .nil)) .nil (.bld rfl .nil) (RenB.tup .nil))<|nt<|sr<|js (qa ot)<|js (qf ot u26)<|js (qa oi)<|nt<|JC.join [] [(0, BldAt (IsV (gs 0)) 79 v13)] ?_ (fun _ hK15=>?_)
 ·cases hm
  exact JE.end0<|JE.retS0 hk (.bld rfl .nil) (.bld rfl .nil) rfl
 ·refine cb<|JC.loop _ (fun s21=>[(2, BM 73 [BP 0 0]), (13, D (RSlice R_api_Dead) a1), (14, D (RInt .i64) (List.length a1 : Int)), (15, D (RInt .i64) s21.1)]) (fun s21=>[(0, BldAt (IsV (gs 0)) 79 s21.2)]) _ ?_ _ hl14 ml
  intro s21 r20 _ hs17 hB18 hE19
  obtain ⟨v7, v8⟩ := s21
  try dsimp only at hs17
  refine sr<|js (qh ot ot)<|nt<|cs<|cn ot hs17 (fun hc23 hs17=>?_) fun hc23 hs17=>?_
  ·obtain ⟨hb24,hs17⟩ :=og hs17
   obtain ⟨x25,hx26,hs17⟩ :=ob hs17
   cases hs17
   exact ck<|tn<|cs<|cb<|sr<|js (qj ot ot u26 ty72 hb24)<|js (qi ot ty72)<|js (qp (i:=4) zero72)<|js (qo ot ot ty72)<|nt<|cr<|js (qa ot)<|js (qn ot ty72)<|js (qH (σ:=[(0, 0)]) ot (shelf_pen_dead_o0_con (nth a1 v7) v8 _ hx26) call73 (.cons ot Ren.dat .nil) (.cons (Ren.bp rfl) .nil) (.bld rfl .nil) (RenB.tup .nil))<|jn<|bn<|tn<|cr<|js (qk ot oi)<|js (qa ot)<|jn<|mt (hB18 _ rfl)
  ·cases hs17
   cases (hE19 _ rfl)
   exact cx<|tx<|tx<|bx<|mt hK15
theorem shelf_pen_router_o0_con (a1) (o0) (r) (hm : shelf_pen_router_o0 a1 o0 = some r) : SC 26 [(0,Bld 79 o0)] [BP 0 0,D R_api_Router a1] [(0,Bld 79 r)] (TUP []) := by
 refine SI func26 (fun gs=>[(0, BldAt (IsV (gs 0)) 79 o0)]) (fun gs=>(.bld .nil)) fun w O gs own hk=>?_
 unfold shelf_pen_router_o0 at hm
 obtain ⟨x1,hx2,hm⟩ :=ob hm
 obtain ⟨x3,hx4,hm⟩ :=ob hm
 obtain ⟨x5,hx6,hm⟩ :=ob hm
 obtain ⟨x7,hx8,hm⟩ :=ob hm
 obtain ⟨x9,hx10,hm⟩ :=ob hm
 obtain ⟨x11,hx12,hm⟩ :=ob hm
 obtain ⟨x13,hx14,hm⟩ :=ob hm
 obtain ⟨x15,hx16,hm⟩ :=ob hm
 cases hm
 exact sr<|js (qq (i:=2) ot)<|nt<|sr<|js (qa ot)<|js (qc ot (fp pl28))<|js (qd ot fo_api_Router_0 ty3)<|js (qg (σ:=[(0, 0)]) oF (shelf_pen_number_o0_con (api_Router.Now a1) o0 _ hx2) call63 (.cons ot (Ren.bp rfl) (.cons ot Ren.dat .nil)) .nil (.bld rfl .nil) (RenB.tup .nil))<|nt<|sr<|js (qa ot)<|js (qc ot (fp pl28))<|js (qd ot fo_api_Router_1 ty22)<|js (qa ot)<|js (qG (Caps.cons ot (Caps.nil (xs := []))))<|js (qg (σ:=[(0, 0)]) oF (shelf_list_api_Topic_o0__shelf_pen_topic_o0_con (api_Router.Topics a1) x1 _ hx4) call64 (.cons ot (Ren.bp rfl) (.cons ot Ren.dat (.cons ot (Ren.bm (.cons (Ren.bp rfl) .nil)) .nil))) .nil (.bld rfl .nil) (RenB.tup .nil))<|nt<|sr<|js (qa ot)<|js (qc ot (fp pl28))<|js (qd ot fo_api_Router_2 ty23)<|js (qa ot)<|js (qG (Caps.cons ot (Caps.nil (xs := []))))<|js (qg (σ:=[(0, 0)]) oF (shelf_list_api_Last_o0__shelf_pen_last_o0_con (api_Router.Lasts a1) x3 _ hx6) call66 (.cons ot (Ren.bp rfl) (.cons ot Ren.dat (.cons ot (Ren.bm (.cons (Ren.bp rfl) .nil)) .nil))) .nil (.bld rfl .nil) (RenB.tup .nil))<|nt<|sr<|js (qa ot)<|js (qc ot (fp pl28))<|js (qd ot fo_api_Router_3 ty24)<|js (qa ot)<|js (qG (Caps.cons ot (Caps.nil (xs := []))))<|js (qg (σ:=[(0, 0)]) oF (shelf_list_api_Sub_o0__shelf_pen_sub_o0_con (api_Router.Subs a1) x5 _ hx8) call68 (.cons ot (Ren.bp rfl) (.cons ot Ren.dat (.cons ot (Ren.bm (.cons (Ren.bp rfl) .nil)) .nil))) .nil (.bld rfl .nil) (RenB.tup .nil))<|nt<|sr<|js (qa ot)<|js (qc ot (fp pl28))<|js (qd ot fo_api_Router_4 ty3)<|js (qg (σ:=[(0, 0)]) oF (shelf_pen_number_o0_con (api_Router.Total a1) x7 _ hx10) call63 (.cons ot (Ren.bp rfl) (.cons ot Ren.dat .nil)) .nil (.bld rfl .nil) (RenB.tup .nil))<|nt<|sr<|js (qa ot)<|js (qc ot (fp pl28))<|js (qd ot fo_api_Router_5 ty25)<|js (qa ot)<|js (qG (Caps.cons ot (Caps.nil (xs := []))))<|js (qg (σ:=[(0, 0)]) oF (shelf_list_api_Out_o0__shelf_pen_out_o0_con (api_Router.Out a1) x9 _ hx12) call70 (.cons ot (Ren.bp rfl) (.cons ot Ren.dat (.cons ot (Ren.bm (.cons (Ren.bp rfl) .nil)) .nil))) .nil (.bld rfl .nil) (RenB.tup .nil))<|nt<|sr<|js (qa ot)<|js (qc ot (fp pl28))<|js (qd ot fo_api_Router_6 ty25)<|js (qa ot)<|js (qG (Caps.cons ot (Caps.nil (xs := []))))<|js (qg (σ:=[(0, 0)]) oF (shelf_list_api_Out_o0__shelf_pen_out_o0_con (api_Router.Given a1) x11 _ hx14) call70 (.cons ot (Ren.bp rfl) (.cons ot Ren.dat (.cons ot (Ren.bm (.cons (Ren.bp rfl) .nil)) .nil))) .nil (.bld rfl .nil) (RenB.tup .nil))<|nt<|cr<|js (qa ot)<|js (qc ot (fp pl28))<|js (qd ot fo_api_Router_7 ty26)<|js (qa ot)<|js (qG (Caps.cons ot (Caps.nil (xs := []))))<|js (qg (σ:=[(0, 0)]) oF (shelf_list_api_Dead_o0__shelf_pen_dead_o0_con (api_Router.Dead a1) x13 _ hx16) call72 (.cons ot (Ren.bp rfl) (.cons ot Ren.dat (.cons ot (Ren.bm (.cons (Ren.bp rfl) .nil)) .nil))) .nil (.bld rfl .nil) (RenB.tup .nil))<|jn<|JE.end0<|JE.retS0 hk (.bld rfl .nil) (.bld rfl .nil) rfl
theorem shelf_Lay_con (a0) (r) (hm : shelf_Lay a0 = some r) : PC 8 [D R_api_Router a0] (TUP [D RStr r.1,D (RInt .i64) r.2]) := by
 refine PI func8 fun w O=>?_
 unfold shelf_Lay at hm
 obtain ⟨x1,hx2,hm⟩ :=ob hm
 refine sr<|js (qq (i:=1) ot)<|js (qb oS)<|js (qb oi)<|nt<|cs<|sr<|js (qn ot ty28)<|js (qe oF (route_Check_con a0 _ hx2) call25 (ze zn))<|js (qw ot oi)<|nt<|cn ot hm (fun hc3 hm=>?_) fun hc3 hm=>?_
 ·cases hm
  exact sr<|js (qb oS)<|js (qb oi)<|nt<|ct<|tr<|JE.retB rfl (RvOK.tmp rfl) (RvOK.tmp rfl)
 ·obtain ⟨x4,hx5,hm⟩ :=ob hm
  obtain ⟨x6,hx7,hm⟩ :=ob hm
  cases hm
  exact ck<|tn<|sr<|js (vf (j:=2))<|nt<|sr<|js (qn ot ty28)<|js (qg (σ:=[(0, 2)]) oF (shelf_pen_router_o0_con a0 ([] : Str) _ hx5) call26 (.cons ot (Ren.bp rfl) (.cons ot Ren.dat .nil)) .nil (.bld rfl .nil) (RenB.tup .nil))<|nt<|sr<|js (qc ot (fp pl79))<|js (qg (σ:=[(0, 2)]) oF (strings_Builder_String_con (T := 79) x4 _ hx7) call27 (.cons ot (Ren.bp rfl) .nil) .nil (.bldDead rfl .nil) RenB.dat)<|js (qb ot)<|js (qb oi)<|nt<|ct<|JE.retB rfl (RvOK.tmp rfl) (RvOK.tmp rfl)
theorem shelf_eye_past_o0_con (a1) (a2) (o0) (r) (hm : shelf_eye_past_o0 a1 a2 o0 = some r) : SC 158 [(0,Box R_shelf_eye 97 o0)] [BP 0 0,D (RInt .i64) a1,D RBool a2] [(0,Box R_shelf_eye 97 r.2)] (D RBool r.1) := by
 refine SI func158 (fun gs=>[(0, BoxAt (IsV (gs 0)) R_shelf_eye 97 o0)]) (fun gs=>(.box .nil)) fun w O gs own hk=>?_
 unfold shelf_eye_past_o0 at hm
 refine sr<|js (qb oB)<|nt<|sr<|js (qa ot)<|js (qa ot)<|js (qt ot)<|js (qc ot (fp pl97))<|js (qd ot fo_shelf_eye_1 ty4)<|js (qa ot)<|jg (fun hg1=>qa ot)<|jg (fun hg2=>qr (ow hg2))<|js (qm ot (fun hk3 => ow hk3))<|js (qt ot)<|js (qc ot (fp pl97))<|js (qv ot ot fs_shelf_eye_1 ty4)<|nt<|cs<|sr<|js (qa ot)<|js (qt ot)<|js (qc ot (fp pl97))<|js (qd ot fo_shelf_eye_1 ty4)<|js (qr ot)<|nt<|cn ot hm (fun hc4 hm=>?_) fun hc4 hm=>?_
 ·obtain ⟨hb5,hm⟩ :=og hm
  cases hm
  exact cr<|js (qa ot)<|js (qa ot)<|js (qt ot)<|js (qc ot (fp pl97))<|js (qd ot fo_shelf_eye_0 ty9)<|js (qa ot)<|js (vc ot ot u9 hb5)<|js (qt ot)<|js (qc ot (fp pl97))<|js (qv ot ot fs_shelf_eye_0 ty9)<|nt<|sr<|js (qa ot)<|js (qt ot)<|js (qc ot (fp pl97))<|js (qd ot fo_shelf_eye_1 ty4)<|js (qr ot)<|js (qb ot)<|nt<|ct<|JE.retSA hk (.box rfl .nil) (.box rfl .nil) rfl (RvS.tmp rfl)
 ·cases hm
  exact ck<|tn<|sr<|js (qa ot)<|js (qt ot)<|js (qc ot (fp pl97))<|js (qd ot fo_shelf_eye_1 ty4)<|js (qr ot)<|js (qb ot)<|nt<|ct<|JE.retSA hk (.box rfl .nil) (.box rfl .nil) rfl (RvS.tmp rfl)
theorem shelf_eye_id_o0_con (o0) (r) (hm : shelf_eye_id_o0 o0 = some r) : SC 109 [(0,Box R_shelf_eye 97 o0)] [BP 0 0] [(0,Box R_shelf_eye 97 r.2)] (D (RInt .u64) r.1) := by
 refine SI func109 (fun gs=>[(0, BoxAt (IsV (gs 0)) R_shelf_eye 97 o0)]) (fun gs=>(.box .nil)) fun w O gs own hk=>?_
 unfold shelf_eye_id_o0 at hm
 obtain ⟨x1,hx2,hm⟩ :=ob hm
 obtain ⟨x3,hx4,hm⟩ :=ob hm
 refine sr<|js (qb oi)<|nt<|sr<|js (qa ot)<|js (qt ot)<|js (qc ot (fp pl97))<|js (qd ot fo_shelf_eye_0 ty9)<|js (qe oF (num_Unpack_con (shelf_eye.rest_ o0) _ hx2) call159 (ze zn))<|js (qa ot)<|js (qu ot)<|js (qu ot)<|js (qu ot)<|js (qb ot)<|js (qb ot)<|js (qb ot)<|nt<|cs<|sr<|js (qa ot)<|js (qa ot)<|js (qa ot)<|js (qy ot oi)<|js (qg (σ:=[(0, 0)]) oF (shelf_eye_past_o0_con x1.2.1 (x1.2.2 == (0 : Int)) o0 _ hx4) call158 (.cons ot (Ren.bp rfl) (.cons ot Ren.dat (.cons ot Ren.dat .nil))) .nil (.box rfl .nil) RenB.dat)<|js (qr ot)<|nt<|cn ot hm (fun hc5 hm=>?_) fun hc5 hm=>?_
 ·cases hm
  exact sr<|js (qb oi)<|nt<|ct<|tr<|JE.retSA hk (.box rfl .nil) (.box rfl .nil) rfl (RvS.tmp rfl)
 ·cases hm
  exact ck<|tn<|sr<|js (qa ot)<|js (qb ot)<|nt<|ct<|JE.retSA hk (.box rfl .nil) (.box rfl .nil) rfl (RvS.tmp rfl)
theorem shelf_eye_number_o0_con (o0) (r) (hm : shelf_eye_number_o0 o0 = some r) : SC 83 [(0,Box R_shelf_eye 97 o0)] [BP 0 0] [(0,Box R_shelf_eye 97 r.2)] (D (RInt .i64) r.1) := by
 refine SI func83 (fun gs=>[(0, BoxAt (IsV (gs 0)) R_shelf_eye 97 o0)]) (fun gs=>(.box .nil)) fun w O gs own hk=>?_
 unfold shelf_eye_number_o0 at hm
 obtain ⟨x1,hx2,hm⟩ :=ob hm
 cases hm
 exact sr<|js (qb oi)<|nt<|sr<|js (qa ot)<|js (qg (σ:=[(0, 0)]) oF (shelf_eye_id_o0_con o0 _ hx2) call109 (.cons ot (Ren.bp rfl) .nil) .nil (.box rfl .nil) RenB.dat)<|js (qe oF (num_Unfold_con x1.1 _ rfl) call137 (ze zn))<|js (qb ot)<|nt<|ct<|JE.retSA hk (.box rfl .nil) (.box rfl .nil) rfl (RvS.tmp rfl)
theorem shelf_eye_text_o0_con (o0) (r) (hm : shelf_eye_text_o0 o0 = some r) : SC 107 [(0,Box R_shelf_eye 97 o0)] [BP 0 0] [(0,Box R_shelf_eye 97 r.2)] (D RStr r.1) := by
 refine SI func107 (fun gs=>[(0, BoxAt (IsV (gs 0)) R_shelf_eye 97 o0)]) (fun gs=>(.box .nil)) fun w O gs own hk=>?_
 unfold shelf_eye_text_o0 at hm
 obtain ⟨x1,hx2,hm⟩ :=ob hm
 obtain ⟨x3,hx4,hm⟩ :=ob hm
 refine sr<|js (qb oS)<|nt<|sr<|js (qa ot)<|js (qg (σ:=[(0, 0)]) oF (shelf_eye_id_o0_con o0 _ hx2) call109 (.cons ot (Ren.bp rfl) .nil) .nil (.box rfl .nil) RenB.dat)<|js (qb ot)<|nt<|sr<|js (qa ot)<|js (qt ot)<|js (qc ot (fp pl97))<|js (qd ot fo_shelf_eye_0 ty9)<|js (qb ot)<|nt<|cs<|sr<|js (qa ot)<|js (qa ot)<|js (qA ot u46 u3)<|js (qa ot)<|js (qa ot)<|js (qD ot u9)<|js (qA ot u3 u46)<|js (qN ot ot)<|js (qg (σ:=[(0, 0)]) oF (shelf_eye_past_o0_con (IntKind.i64.wrap x1.1) (decide (x1.1 ≤ (IntKind.u64.wrap (List.length (shelf_eye.rest_ x1.2) : Int)))) x1.2 _ hx4) call158 (.cons ot (Ren.bp rfl) (.cons ot Ren.dat (.cons ot Ren.dat .nil))) .nil (.box rfl .nil) RenB.dat)<|js (qr ot)<|nt<|cn ot hm (fun hc5 hm=>?_) fun hc5 hm=>?_
 ·cases hm
  exact sr<|js (qb oS)<|nt<|ct<|tr<|JE.retSA hk (.box rfl .nil) (.box rfl .nil) rfl (RvS.tmp rfl)
 ·obtain ⟨hb6,hm⟩ :=og hm
  cases hm
  exact ck<|tn<|sr<|js (qa ot)<|js (qa ot)<|js (qP ot ot u9 hb6)<|js (qb ot)<|nt<|ct<|JE.retSA hk (.box rfl .nil) (.box rfl .nil) rfl (RvS.tmp rfl)
theorem shelf_some_string_o0__shelf_eye_text_o0_con (o0) (r) (hm : shelf_some_string_o0__shelf_eye_text_o0 o0 = some r) : SC 138 [(0,Box R_shelf_eye 97 o0)] [BP 0 0,BM 107 [BP 0 0]] [(0,Box R_shelf_eye 97 r.2)] (D (RSlice RStr) r.1) := by
 refine SI func138 (fun gs=>[(0, BoxAt (IsV (gs 0)) R_shelf_eye 97 o0)]) (fun gs=>(.box .nil)) fun w O gs own hk=>?_
 unfold shelf_some_string_o0__shelf_eye_text_o0 at hm
 obtain ⟨x1,hx2,hm⟩ :=ob hm
 obtain ⟨v4,hj5,hm⟩ :=ob hm
 refine sr<|js (qb (Opd.nil (R := RStr)))<|nt<|sr<|js (qa ot)<|js (qg (σ:=[(0, 0)]) oF (shelf_eye_id_o0_con o0 _ hx2) call109 (.cons ot (Ren.bp rfl) .nil) .nil (.box rfl .nil) RenB.dat)<|js (qb ot)<|nt<|cs<|sr<|js (qa ot)<|js (qa ot)<|js (qt ot)<|js (qc ot (fp pl97))<|js (qd ot fo_shelf_eye_0 ty9)<|js (qD ot u9)<|js (qA ot u3 u46)<|js (qs ot ot)<|nt<|JC.join [(0, BP 0 0), (1, BM 107 [BP 0 0]), (5, D (RInt .u64) x1.1)] [(0, BoxAt (IsV (gs 0)) R_shelf_eye 97 v4)] ?_ (fun _ hK6=>?_)
 ·obtain ⟨⟨v31,v32⟩,hl33,hm⟩ :=ob hm
  refine tn<|sr<|js (qK (j:=2) (R:=RStr) (E:=9) (.inr rfl))<|nt<|cs<|JC.join [(6, OS 2)] [(0, BoxAt (IsV (gs 0)) R_shelf_eye 97 v31), (2, OwnSl RStr 9 v32)] ?_ (fun _ hK34=>?_)
  ·refine tn<|sr<|js (qa ot)<|js (qb ot)<|nt<|ct ?_
   refine JE.imp (Imp.frz 2 (ts := [6, 36, 4]) rfl (.cons rfl (.cons rfl (.cons rfl .nil)))) ?_
   cases hm
   exact JE.retSA hk (.box rfl .nil) (.box rfl .nil) rfl (RvS.tmp rfl)
  ·refine cb<|JC.loop _ (fun s40=>[(0, BP 0 0), (1, BM 107 [BP 0 0]), (5, D (RInt .u64) s40.1), (6, OS 2)]) (fun s40=>[(0, BoxAt (IsV (gs 0)) R_shelf_eye 97 s40.2.1), (2, OwnSl RStr 9 s40.2.2)]) _ ?_ _ hl33 ml
   intro s40 r39 _ hs36 hB37 hE38
   obtain ⟨v18, v19, v20⟩ := s40
   try dsimp only at hs36
   refine cs<|sr<|js (qa ot)<|js (qs ot oi)<|js (qa ot)<|jg (fun hg42=>qa ot)<|jg (fun hg43=>qt (ow hg43))<|jg (fun hg44=>qc (ow hg44) (fp pl97))<|jg (fun hg45=>qd (ow hg45) fo_shelf_eye_1 ty4)<|jg (fun hg46=>qr (ow hg46))<|js (ql ot (fun hk47 => ow hk47))<|nt<|cn ot hs36 (fun hc48 hs36=>?_) fun hc48 hs36=>?_
   ·obtain ⟨x49,hx50,hs36⟩ :=ob hs36
    obtain ⟨hb51,hs36⟩ :=og hs36
    cases hs36
    refine ck<|tn<|cs<|cb<|cr<|js (qa ot)<|js (qa ot)<|js (qH (σ:=[(0, 0)]) ot (shelf_eye_text_o0_con v19 _ hx50) call107 .nil (.cons (Ren.bp rfl) .nil) (.box rfl .nil) RenB.dat)<|js (qC u40 ty9 hz9 (.cons ot .nil))<|js (qB (j:=5) ot ot u40 sl9 hb51)<|js (qb ot)<|jn<|bn<|tn<|cr<|js (qa ot)<|js (qE ot oi)<|js (qb ot)<|jn ?_
    exact JE.meetR [(0, 0), (2, 5)] (hB37 _ rfl) (by decide) (by decide) (CVR.cons (t := 0) rfl (Ren.bp rfl) (CVR.cons (t := 1) rfl (Ren.bm (.cons (Ren.bp rfl) .nil)) (CVR.cons (t := 5) rfl Ren.dat (CVR.cons (t := 6) rfl (Ren.os rfl) CVR.nil)))) (OVR.cons (i := 0) rfl RenO.box (OVR.cons (i := 5) rfl RenO.sl OVR.nil))
   ·cases hs36
    cases (hE38 _ rfl)
    exact cx<|tx<|tx<|bx<|mt hK34
 ·refine cn ot hj5 (fun hc53 hj5=>?_) fun hc53 hj5=>?_
  ·cases hj5
   exact cr<|js (qa ot)<|js (qt ot)<|js (qc ot (fp pl97))<|js (qv ot oB fs_shelf_eye_1 ty4)<|jn<|mt hK6
  ·cases hj5
   exact ck<|mt hK6
theorem shelf_eye_topic_o0_con (o0) (r) (hm : shelf_eye_topic_o0 o0 = some r) : SC 85 [(0,Box R_shelf_eye 97 o0)] [BP 0 0] [(0,Box R_shelf_eye 97 r.2)] (D R_api_Topic r.1) := by
 refine SI func85 (fun gs=>[(0, BoxAt (IsV (gs 0)) R_shelf_eye 97 o0)]) (fun gs=>(.box .nil)) fun w O gs own hk=>?_
 unfold shelf_eye_topic_o0 at hm
 obtain ⟨x1,hx2,hm⟩ :=ob hm
 obtain ⟨x3,hx4,hm⟩ :=ob hm
 obtain ⟨x5,hx6,hm⟩ :=ob hm
 cases hm
 exact sr<|js (qp (i:=2) zero62)<|nt<|sr<|js (qp (i:=3) zero62)<|nt<|sr<|js (qa ot)<|js (qg (σ:=[(0, 0)]) oF (shelf_eye_text_o0_con o0 _ hx2) call107 (.cons ot (Ren.bp rfl) .nil) .nil (.box rfl .nil) RenB.dat)<|js (qc ot (fp pl62))<|js (qv ot ot fs_api_Topic_0 ty9)<|nt<|sr<|js (qa ot)<|js (qg (σ:=[(0, 0)]) oF (shelf_eye_number_o0_con x1.2 _ hx4) call83 (.cons ot (Ren.bp rfl) .nil) .nil (.box rfl .nil) RenB.dat)<|js (qc ot (fp pl62))<|js (qv ot ot fs_api_Topic_1 ty3)<|nt<|sr<|js (qa ot)<|js (qa ot)<|js (qG (Caps.cons ot (Caps.nil (xs := []))))<|js (qg (σ:=[(0, 0)]) oF (shelf_some_string_o0__shelf_eye_text_o0_con x3.2 _ hx6) call138 (.cons ot (Ren.bp rfl) (.cons ot (Ren.bm (.cons (Ren.bp rfl) .nil)) .nil)) .nil (.box rfl .nil) RenB.dat)<|js (qc ot (fp pl62))<|js (qv ot ot fs_api_Topic_2 ty40)<|nt<|sr<|js (qn ot ty62)<|js (qo ot ot ty62)<|nt<|ct<|JE.retSA hk (.box rfl .nil) (.box rfl .nil) rfl (RvS.cell rfl rfl ty62)
theorem shelf_some_api_Topic_o0__shelf_eye_topic_o0_con (o0) (r) (hm : shelf_some_api_Topic_o0__shelf_eye_topic_o0 o0 = some r) : SC 84 [(0,Box R_shelf_eye 97 o0)] [BP 0 0,BM 85 [BP 0 0]] [(0,Box R_shelf_eye 97 r.2)] (D (RSlice R_api_Topic) r.1) := by
 refine SI func84 (fun gs=>[(0, BoxAt (IsV (gs 0)) R_shelf_eye 97 o0)]) (fun gs=>(.box .nil)) fun w O gs own hk=>?_
 unfold shelf_some_api_Topic_o0__shelf_eye_topic_o0 at hm
 obtain ⟨x1,hx2,hm⟩ :=ob hm
 obtain ⟨v4,hj5,hm⟩ :=ob hm
 refine sr<|js (qb (Opd.nil (R := R_api_Topic)))<|nt<|sr<|js (qa ot)<|js (qg (σ:=[(0, 0)]) oF (shelf_eye_id_o0_con o0 _ hx2) call109 (.cons ot (Ren.bp rfl) .nil) .nil (.box rfl .nil) RenB.dat)<|js (qb ot)<|nt<|cs<|sr<|js (qa ot)<|js (qa ot)<|js (qt ot)<|js (qc ot (fp pl97))<|js (qd ot fo_shelf_eye_0 ty9)<|js (qD ot u9)<|js (qA ot u3 u46)<|js (qs ot ot)<|nt<|JC.join [(0, BP 0 0), (1, BM 85 [BP 0 0]), (5, D (RInt .u64) x1.1)] [(0, BoxAt (IsV (gs 0)) R_shelf_eye 97 v4)] ?_ (fun _ hK6=>?_)
 ·obtain ⟨⟨v31,v32⟩,hl33,hm⟩ :=ob hm
  refine tn<|sr<|js (qK (j:=2) (R:=R_api_Topic) (E:=62) (.inr rfl))<|nt<|cs<|JC.join [(6, OS 2)] [(0, BoxAt (IsV (gs 0)) R_shelf_eye 97 v31), (2, OwnSl R_api_Topic 62 v32)] ?_ (fun _ hK34=>?_)
  ·refine tn<|sr<|js (qa ot)<|js (qb ot)<|nt<|ct ?_
   refine JE.imp (Imp.frz 2 (ts := [6, 36, 4]) rfl (.cons rfl (.cons rfl (.cons rfl .nil)))) ?_
   cases hm
   exact JE.retSA hk (.box rfl .nil) (.box rfl .nil) rfl (RvS.tmp rfl)
  ·refine cb<|JC.loop _ (fun s40=>[(0, BP 0 0), (1, BM 85 [BP 0 0]), (5, D (RInt .u64) s40.1), (6, OS 2)]) (fun s40=>[(0, BoxAt (IsV (gs 0)) R_shelf_eye 97 s40.2.1), (2, OwnSl R_api_Topic 62 s40.2.2)]) _ ?_ _ hl33 ml
   intro s40 r39 _ hs36 hB37 hE38
   obtain ⟨v18, v19, v20⟩ := s40
   try dsimp only at hs36
   refine cs<|sr<|js (qa ot)<|js (qs ot oi)<|js (qa ot)<|jg (fun hg42=>qa ot)<|jg (fun hg43=>qt (ow hg43))<|jg (fun hg44=>qc (ow hg44) (fp pl97))<|jg (fun hg45=>qd (ow hg45) fo_shelf_eye_1 ty4)<|jg (fun hg46=>qr (ow hg46))<|js (ql ot (fun hk47 => ow hk47))<|nt<|cn ot hs36 (fun hc48 hs36=>?_) fun hc48 hs36=>?_
   ·obtain ⟨x49,hx50,hs36⟩ :=ob hs36
    obtain ⟨hb51,hs36⟩ :=og hs36
    cases hs36
    refine ck<|tn<|cs<|cb<|cr<|js (qa ot)<|js (qa ot)<|js (qH (σ:=[(0, 0)]) ot (shelf_eye_topic_o0_con v19 _ hx50) call85 .nil (.cons (Ren.bp rfl) .nil) (.box rfl .nil) RenB.dat)<|js (qC u22 ty62 hz62 (.cons ot .nil))<|js (qB (j:=5) ot ot u22 sl62 hb51)<|js (qb ot)<|jn<|bn<|tn<|cr<|js (qa ot)<|js (qE ot oi)<|js (qb ot)<|jn ?_
    exact JE.meetR [(0, 0), (2, 5)] (hB37 _ rfl) (by decide) (by decide) (CVR.cons (t := 0) rfl (Ren.bp rfl) (CVR.cons (t := 1) rfl (Ren.bm (.cons (Ren.bp rfl) .nil)) (CVR.cons (t := 5) rfl Ren.dat (CVR.cons (t := 6) rfl (Ren.os rfl) CVR.nil)))) (OVR.cons (i := 0) rfl RenO.box (OVR.cons (i := 5) rfl RenO.sl OVR.nil))
   ·cases hs36
    cases (hE38 _ rfl)
    exact cx<|tx<|tx<|bx<|mt hK34
 ·refine cn ot hj5 (fun hc53 hj5=>?_) fun hc53 hj5=>?_
  ·cases hj5
   exact cr<|js (qa ot)<|js (qt ot)<|js (qc ot (fp pl97))<|js (qv ot oB fs_shelf_eye_1 ty4)<|jn<|mt hK6
  ·cases hj5
   exact ck<|mt hK6
theorem shelf_eye_last_o0_con (o0) (r) (hm : shelf_eye_last_o0 o0 = some r) : SC 87 [(0,Box R_shelf_eye 97 o0)] [BP 0 0] [(0,Box R_shelf_eye 97 r.2)] (D R_api_Last r.1) := by
 refine SI func87 (fun gs=>[(0, BoxAt (IsV (gs 0)) R_shelf_eye 97 o0)]) (fun gs=>(.box .nil)) fun w O gs own hk=>?_
 unfold shelf_eye_last_o0 at hm
 obtain ⟨x1,hx2,hm⟩ :=ob hm
 obtain ⟨x3,hx4,hm⟩ :=ob hm
 obtain ⟨x5,hx6,hm⟩ :=ob hm
 cases hm
 exact sr<|js (qp (i:=2) zero102)<|nt<|sr<|js (qp (i:=3) zero102)<|nt<|sr<|js (qa ot)<|js (qg (σ:=[(0, 0)]) oF (shelf_eye_text_o0_con o0 _ hx2) call107 (.cons ot (Ren.bp rfl) .nil) .nil (.box rfl .nil) RenB.dat)<|js (qc ot (fp pl102))<|js (qv ot ot fs_api_Last_0 ty9)<|nt<|sr<|js (qa ot)<|js (qg (σ:=[(0, 0)]) oF (shelf_eye_id_o0_con x1.2 _ hx4) call109 (.cons ot (Ren.bp rfl) .nil) .nil (.box rfl .nil) RenB.dat)<|js (qc ot (fp pl102))<|js (qv ot ot fs_api_Last_1 ty46)<|nt<|sr<|js (qa ot)<|js (qg (σ:=[(0, 0)]) oF (shelf_eye_number_o0_con x3.2 _ hx6) call83 (.cons ot (Ren.bp rfl) .nil) .nil (.box rfl .nil) RenB.dat)<|js (qc ot (fp pl102))<|js (qv ot ot fs_api_Last_2 ty3)<|nt<|sr<|js (qn ot ty102)<|js (qo ot ot ty102)<|nt<|ct<|JE.retSA hk (.box rfl .nil) (.box rfl .nil) rfl (RvS.cell rfl rfl ty102)
theorem shelf_some_api_Last_o0__shelf_eye_last_o0_con (o0) (r) (hm : shelf_some_api_Last_o0__shelf_eye_last_o0 o0 = some r) : SC 86 [(0,Box R_shelf_eye 97 o0)] [BP 0 0,BM 87 [BP 0 0]] [(0,Box R_shelf_eye 97 r.2)] (D (RSlice R_api_Last) r.1) := by
 refine SI func86 (fun gs=>[(0, BoxAt (IsV (gs 0)) R_shelf_eye 97 o0)]) (fun gs=>(.box .nil)) fun w O gs own hk=>?_
 unfold shelf_some_api_Last_o0__shelf_eye_last_o0 at hm
 obtain ⟨x1,hx2,hm⟩ :=ob hm
 obtain ⟨v4,hj5,hm⟩ :=ob hm
 refine sr<|js (qb (Opd.nil (R := R_api_Last)))<|nt<|sr<|js (qa ot)<|js (qg (σ:=[(0, 0)]) oF (shelf_eye_id_o0_con o0 _ hx2) call109 (.cons ot (Ren.bp rfl) .nil) .nil (.box rfl .nil) RenB.dat)<|js (qb ot)<|nt<|cs<|sr<|js (qa ot)<|js (qa ot)<|js (qt ot)<|js (qc ot (fp pl97))<|js (qd ot fo_shelf_eye_0 ty9)<|js (qD ot u9)<|js (qA ot u3 u46)<|js (qs ot ot)<|nt<|JC.join [(0, BP 0 0), (1, BM 87 [BP 0 0]), (5, D (RInt .u64) x1.1)] [(0, BoxAt (IsV (gs 0)) R_shelf_eye 97 v4)] ?_ (fun _ hK6=>?_)
 ·obtain ⟨⟨v31,v32⟩,hl33,hm⟩ :=ob hm
  refine tn<|sr<|js (qK (j:=2) (R:=R_api_Last) (E:=102) (.inr rfl))<|nt<|cs<|JC.join [(6, OS 2)] [(0, BoxAt (IsV (gs 0)) R_shelf_eye 97 v31), (2, OwnSl R_api_Last 102 v32)] ?_ (fun _ hK34=>?_)
  ·refine tn<|sr<|js (qa ot)<|js (qb ot)<|nt<|ct ?_
   refine JE.imp (Imp.frz 2 (ts := [6, 36, 4]) rfl (.cons rfl (.cons rfl (.cons rfl .nil)))) ?_
   cases hm
   exact JE.retSA hk (.box rfl .nil) (.box rfl .nil) rfl (RvS.tmp rfl)
  ·refine cb<|JC.loop _ (fun s40=>[(0, BP 0 0), (1, BM 87 [BP 0 0]), (5, D (RInt .u64) s40.1), (6, OS 2)]) (fun s40=>[(0, BoxAt (IsV (gs 0)) R_shelf_eye 97 s40.2.1), (2, OwnSl R_api_Last 102 s40.2.2)]) _ ?_ _ hl33 ml
   intro s40 r39 _ hs36 hB37 hE38
   obtain ⟨v18, v19, v20⟩ := s40
   try dsimp only at hs36
   refine cs<|sr<|js (qa ot)<|js (qs ot oi)<|js (qa ot)<|jg (fun hg42=>qa ot)<|jg (fun hg43=>qt (ow hg43))<|jg (fun hg44=>qc (ow hg44) (fp pl97))<|jg (fun hg45=>qd (ow hg45) fo_shelf_eye_1 ty4)<|jg (fun hg46=>qr (ow hg46))<|js (ql ot (fun hk47 => ow hk47))<|nt<|cn ot hs36 (fun hc48 hs36=>?_) fun hc48 hs36=>?_
   ·obtain ⟨x49,hx50,hs36⟩ :=ob hs36
    obtain ⟨hb51,hs36⟩ :=og hs36
    cases hs36
    refine ck<|tn<|cs<|cb<|cr<|js (qa ot)<|js (qa ot)<|js (qH (σ:=[(0, 0)]) ot (shelf_eye_last_o0_con v19 _ hx50) call87 .nil (.cons (Ren.bp rfl) .nil) (.box rfl .nil) RenB.dat)<|js (qC u23 ty102 hz102 (.cons ot .nil))<|js (qB (j:=5) ot ot u23 sl102 hb51)<|js (qb ot)<|jn<|bn<|tn<|cr<|js (qa ot)<|js (qE ot oi)<|js (qb ot)<|jn ?_
    exact JE.meetR [(0, 0), (2, 5)] (hB37 _ rfl) (by decide) (by decide) (CVR.cons (t := 0) rfl (Ren.bp rfl) (CVR.cons (t := 1) rfl (Ren.bm (.cons (Ren.bp rfl) .nil)) (CVR.cons (t := 5) rfl Ren.dat (CVR.cons (t := 6) rfl (Ren.os rfl) CVR.nil)))) (OVR.cons (i := 0) rfl RenO.box (OVR.cons (i := 5) rfl RenO.sl OVR.nil))
   ·cases hs36
    cases (hE38 _ rfl)
    exact cx<|tx<|tx<|bx<|mt hK34
 ·refine cn ot hj5 (fun hc53 hj5=>?_) fun hc53 hj5=>?_
  ·cases hj5
   exact cr<|js (qa ot)<|js (qt ot)<|js (qc ot (fp pl97))<|js (qv ot oB fs_shelf_eye_1 ty4)<|jn<|mt hK6
  ·cases hj5
   exact ck<|mt hK6
theorem pred_parser_skip_o0_con (a1) (o0) (r) (hm : pred_parser_skip_o0 a1 o0 = r) : SC 222 [(0,Box R_pred_parser 282 o0)] [BP 0 0,D RStr a1] [(0,Box R_pred_parser 282 r.2)] (D RBool r.1) := by
 refine SI func222 (fun gs=>[(0, BoxAt (IsV (gs 0)) R_pred_parser 282 o0)]) (fun gs=>(.box .nil)) fun w O gs own hk=>?_
 unfold pred_parser_skip_o0 at hm
 cases hm
 exact sr<|js (qb oB)<|nt<|sr<|js (qa ot)<|js (qt ot)<|js (qc ot (fp pl282))<|js (qd ot fo_pred_parser_0 ty9)<|js (qa ot)<|js (qe oF (strings_CutPrefix_con (pred_parser.s_ o0) a1 _ rfl) call236 (ze (ze zn)))<|js (qa ot)<|js (qu ot)<|js (qu ot)<|js (qb ot)<|js (qb ot)<|nt<|sr<|js (qa ot)<|js (qa ot)<|js (qt ot)<|js (qc ot (fp pl282))<|js (qv ot ot fs_pred_parser_0 ty9)<|nt<|sr<|js (qa ot)<|js (qb ot)<|nt<|ct<|JE.retSA hk (.box rfl .nil) (.box rfl .nil) rfl (RvS.tmp rfl)
theorem pred_parser_named_o0_con (a1) (o0) (r) (hm : pred_parser_named_o0 a1 o0 = some r) : SC 223 [(0,Box R_pred_parser 282 o0)] [BP 0 0,D RStr a1] [(0,Box R_pred_parser 282 r.2.2)] (TUP [D R_api_Pred r.1,D RBool r.2.1]) := by
 refine SI func223 (fun gs=>[(0, BoxAt (IsV (gs 0)) R_pred_parser 282 o0)]) (fun gs=>(.box .nil)) fun w O gs own hk=>?_
 unfold pred_parser_named_o0 at hm
 obtain ⟨x1,hx2,hm⟩ :=ob hm
 cases hm
 exact sr<|js (qp (i:=2) zero120)<|js (qb oB)<|nt<|sr<|js (qa ot)<|js (qt ot)<|js (qc ot (fp pl282))<|js (qd ot fo_pred_parser_0 ty9)<|js (qe oF (strings_Cut_con (pred_parser.s_ o0) ([41] : Str) _ hx2) call205 (ze (zc (zo oS) zn)))<|js (qa ot)<|js (qu ot)<|js (qu ot)<|js (qu ot)<|js (qb ot)<|js (qb ot)<|js (qb ot)<|nt<|sr<|js (qa ot)<|js (qa ot)<|js (qt ot)<|js (qc ot (fp pl282))<|js (qv ot ot fs_pred_parser_0 ty9)<|nt<|sr<|js (qa ot)<|js (qa ot)<|js (qF pl120 zero120 (Fill.cons rfl ot fs_api_Pred_0 (Fill.cons rfl ot fs_api_Pred_1 Fill.nil)))<|js (qa ot)<|js (qo ot ot ty120)<|js (qb ot)<|nt<|ct<|JE.retSB hk (.box rfl .nil) (.box rfl .nil) rfl (RvS.cell rfl rfl ty120) (RvS.tmp rfl)
end Go.Proofs
