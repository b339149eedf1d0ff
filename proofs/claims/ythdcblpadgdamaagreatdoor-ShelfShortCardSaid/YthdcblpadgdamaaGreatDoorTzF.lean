import Derived.Test.YthdcblpadgdamaaGreatDoorTyD
import Derived.Test.YthdcblpadgdamaaGreatDoorTrwArr
set_option linter.all false
set_option maxRecDepth 100000
set_option maxHeartbeats 4000000
namespace Go.Proofs
open Go Go.Trw
theorem mixed : Tryz.prog.follows .mixedOrders = true := by kernel_rfl
theorem ty2 : TyOK Tryz.prog 2 (RInt .i64) := ⟨by kernel_rfl, by kernel_rfl⟩
theorem ty3 : TyOK Tryz.prog 3 (RInt .i64) := ⟨by kernel_rfl, by kernel_rfl⟩
theorem ty4 : TyOK Tryz.prog 4 RBool := ⟨by kernel_rfl, by kernel_rfl⟩
theorem ty5 : TyOK Tryz.prog 5 (RInt .u8) := ⟨by kernel_rfl, by kernel_rfl⟩
theorem ty9 : TyOK Tryz.prog 9 RStr := ⟨by kernel_rfl, by kernel_rfl⟩
theorem ty22 : TyOK Tryz.prog 22 (RSlice R_api_Topic) := ⟨by kernel_rfl, by kernel_rfl⟩
theorem ty23 : TyOK Tryz.prog 23 (RSlice R_api_Last) := ⟨by kernel_rfl, by kernel_rfl⟩
theorem ty24 : TyOK Tryz.prog 24 (RSlice R_api_Sub) := ⟨by kernel_rfl, by kernel_rfl⟩
theorem ty25 : TyOK Tryz.prog 25 (RSlice R_api_Out) := ⟨by kernel_rfl, by kernel_rfl⟩
theorem ty26 : TyOK Tryz.prog 26 (RSlice R_api_Dead) := ⟨by kernel_rfl, by kernel_rfl⟩
theorem ty28 : TyOK Tryz.prog 28 R_api_Router := ⟨by kernel_rfl, by kernel_rfl⟩
theorem ty30 : TyOK Tryz.prog 30 (RInt .i64) := ⟨by kernel_rfl, by kernel_rfl⟩
theorem ty40 : TyOK Tryz.prog 40 (RSlice RStr) := ⟨by kernel_rfl, by kernel_rfl⟩
theorem ty41 : TyOK Tryz.prog 41 (RSlice R_api_Pred) := ⟨by kernel_rfl, by kernel_rfl⟩
theorem ty43 : TyOK Tryz.prog 43 R_api_Join := ⟨by kernel_rfl, by kernel_rfl⟩
theorem ty45 : TyOK Tryz.prog 45 R_api_Def := ⟨by kernel_rfl, by kernel_rfl⟩
theorem ty46 : TyOK Tryz.prog 46 (RInt .u64) := ⟨by kernel_rfl, by kernel_rfl⟩
theorem ty48 : TyOK Tryz.prog 48 R_api_Op := ⟨by kernel_rfl, by kernel_rfl⟩
theorem ty62 : TyOK Tryz.prog 62 R_api_Topic := ⟨by kernel_rfl, by kernel_rfl⟩
theorem ty63 : TyOK Tryz.prog 63 (RSlice R_api_Off) := ⟨by kernel_rfl, by kernel_rfl⟩
theorem ty64 : TyOK Tryz.prog 64 (RSlice R_api_Inst) := ⟨by kernel_rfl, by kernel_rfl⟩
theorem ty66 : TyOK Tryz.prog 66 R_api_Sub := ⟨by kernel_rfl, by kernel_rfl⟩
theorem ty72 : TyOK Tryz.prog 72 R_api_Dead := ⟨by kernel_rfl, by kernel_rfl⟩
theorem ty86 : TyOK Tryz.prog 86 (RSlice (RInt .u64)) := ⟨by kernel_rfl, by kernel_rfl⟩
theorem ty88 : TyOK Tryz.prog 88 R_api_Out := ⟨by kernel_rfl, by kernel_rfl⟩
theorem ty90 : TyOK Tryz.prog 90 (RSlice R_api_Field) := ⟨by kernel_rfl, by kernel_rfl⟩
theorem ty92 : TyOK Tryz.prog 92 R_api_Event := ⟨by kernel_rfl, by kernel_rfl⟩
theorem ty97 : TyOK Tryz.prog 97 R_shelf_eye := ⟨by kernel_rfl, by kernel_rfl⟩
theorem ty102 : TyOK Tryz.prog 102 R_api_Last := ⟨by kernel_rfl, by kernel_rfl⟩
theorem ty118 : TyOK Tryz.prog 118 R_api_Value := ⟨by kernel_rfl, by kernel_rfl⟩
theorem ty120 : TyOK Tryz.prog 120 R_api_Pred := ⟨by kernel_rfl, by kernel_rfl⟩
theorem ty123 : TyOK Tryz.prog 123 R_api_Off := ⟨by kernel_rfl, by kernel_rfl⟩
theorem ty125 : TyOK Tryz.prog 125 (RSlice R_api_Kept) := ⟨by kernel_rfl, by kernel_rfl⟩
theorem ty127 : TyOK Tryz.prog 127 R_api_Inst := ⟨by kernel_rfl, by kernel_rfl⟩
theorem ty153 : TyOK Tryz.prog 153 R_api_Kept := ⟨by kernel_rfl, by kernel_rfl⟩
theorem ty202 : TyOK Tryz.prog 202 R_api_Field := ⟨by kernel_rfl, by kernel_rfl⟩
theorem ty241 : TyOK Tryz.prog 241 R_event_reader := ⟨by kernel_rfl, by kernel_rfl⟩
theorem ty282 : TyOK Tryz.prog 282 R_pred_parser := ⟨by kernel_rfl, by kernel_rfl⟩
theorem eq4 : EqOK Tryz.prog 1 4 RBool := EqOK.bool (k := 0) Tryz.underlying4
theorem eq2 : EqOK Tryz.prog 1 2 (RInt .i64) := EqOK.int (k := 0) Tryz.underlying2
theorem eq9 : EqOK Tryz.prog 1 9 RStr := EqOK.str (k := 0) Tryz.underlying9
theorem eq118 : EqOK Tryz.prog 2 118 R_api_Value := EqOK.struct Tryz.underlying118 (by kernel_rfl) rfl (EqFs.cons (by decide) rfl ty4 eq4 (EqFs.cons (by decide) rfl ty2 eq2 (EqFs.cons (by decide) rfl ty9 eq9 EqFs.nil))) (by intro x y h; cases x; cases y; simp only [Prod.mk.injEq, and_true] at h; simp only [api_Value.mk.injEq]; exact h)
theorem eq3 : EqOK Tryz.prog 1 3 (RInt .i64) := EqOK.int (k := 0) Tryz.underlying3
theorem eq43 : EqOK Tryz.prog 2 43 R_api_Join := EqOK.struct Tryz.underlying43 (by kernel_rfl) rfl (EqFs.cons (by decide) rfl ty9 eq9 (EqFs.cons (by decide) rfl ty3 eq3 (EqFs.cons (by decide) rfl ty3 eq3 (EqFs.cons (by decide) rfl ty3 eq3 EqFs.nil)))) (by intro x y h; cases x; cases y; simp only [Prod.mk.injEq, and_true] at h; simp only [api_Join.mk.injEq]; exact h)
theorem pl28 : placesOf Tryz.prog 28 = some [(0, 1), (1, 1), (2, 1), (3, 1), (4, 1), (5, 1), (6, 1), (7, 1)] := by kernel_rfl
theorem pl43 : placesOf Tryz.prog 43 = some [(0, 1), (1, 1), (2, 1), (3, 1)] := by kernel_rfl
theorem pl45 : placesOf Tryz.prog 45 = some [(0, 1), (1, 1), (2, 1), (3, 1), (4, 4)] := by kernel_rfl
theorem pl48 : placesOf Tryz.prog 48 = some [(0, 1), (1, 1), (2, 8), (10, 1), (11, 1), (12, 1)] := by kernel_rfl
theorem pl62 : placesOf Tryz.prog 62 = some [(0, 1), (1, 1), (2, 1)] := by kernel_rfl
theorem pl66 : placesOf Tryz.prog 66 = some [(0, 8), (8, 1), (9, 1), (10, 1), (11, 1), (12, 1), (13, 1), (14, 1)] := by kernel_rfl
theorem pl72 : placesOf Tryz.prog 72 = some [(0, 1), (1, 1)] := by kernel_rfl
theorem pl79 : placesOf Tryz.prog 79 = some [(0, 2)] := by kernel_rfl
theorem pl88 : placesOf Tryz.prog 88 = some [(0, 1), (1, 1), (2, 1), (3, 1), (4, 1)] := by kernel_rfl
theorem pl92 : placesOf Tryz.prog 92 = some [(0, 1), (1, 1), (2, 1), (3, 1)] := by kernel_rfl
theorem pl97 : placesOf Tryz.prog 97 = some [(0, 1), (1, 1)] := by kernel_rfl
theorem pl102 : placesOf Tryz.prog 102 = some [(0, 1), (1, 1), (2, 1)] := by kernel_rfl
theorem pl118 : placesOf Tryz.prog 118 = some [(0, 1), (1, 1), (2, 1)] := by kernel_rfl
theorem pl120 : placesOf Tryz.prog 120 = some [(0, 1), (1, 1), (2, 3), (5, 1)] := by kernel_rfl
theorem pl123 : placesOf Tryz.prog 123 = some [(0, 1), (1, 1)] := by kernel_rfl
theorem pl127 : placesOf Tryz.prog 127 = some [(0, 3), (3, 1)] := by kernel_rfl
theorem pl153 : placesOf Tryz.prog 153 = some [(0, 1), (1, 1), (2, 1)] := by kernel_rfl
theorem pl202 : placesOf Tryz.prog 202 = some [(0, 1), (1, 3)] := by kernel_rfl
theorem pl241 : placesOf Tryz.prog 241 = some [(0, 1), (1, 1), (2, 1)] := by kernel_rfl
theorem pl259 : placesOf Tryz.prog 259 = some [(0, 1)] := by kernel_rfl
theorem pl282 : placesOf Tryz.prog 282 = some [(0, 1), (1, 1)] := by kernel_rfl
theorem tyP217 : TyOK Tryz.prog 217 RRaw := ⟨by kernel_rfl, by kernel_rfl⟩
theorem zeroP218 : ZeroOK Tryz.prog 218 (RArr 5 RRaw) (List.replicate 5 (.pointer none)) := ZeroOK.agg (cs := (List.replicate 5 [Value.pointer none]).flatten) (by kernel_rfl) (ZR.arr (fun _ _ => ⟨rfl, rfl⟩)) rfl
theorem bld77 : BldT 77 := by unfold BldT; kernel_rfl
theorem bld79 : BldT 79 := by unfold BldT; kernel_rfl
theorem hz3 : hasZero Tryz.prog 3 = true := by kernel_rfl
theorem hz5 : hasZero Tryz.prog 5 = true := by kernel_rfl
theorem hz9 : hasZero Tryz.prog 9 = true := by kernel_rfl
theorem hz46 : hasZero Tryz.prog 46 = true := by kernel_rfl
theorem hz62 : hasZero Tryz.prog 62 = true := by kernel_rfl
theorem hz66 : hasZero Tryz.prog 66 = true := by kernel_rfl
theorem hz72 : hasZero Tryz.prog 72 = true := by kernel_rfl
theorem hz88 : hasZero Tryz.prog 88 = true := by kernel_rfl
theorem hz102 : hasZero Tryz.prog 102 = true := by kernel_rfl
theorem hz120 : hasZero Tryz.prog 120 = true := by kernel_rfl
theorem hz123 : hasZero Tryz.prog 123 = true := by kernel_rfl
theorem hz127 : hasZero Tryz.prog 127 = true := by kernel_rfl
theorem hz153 : hasZero Tryz.prog 153 = true := by kernel_rfl
theorem hz311 : hasZero Tryz.prog 311 = true := by kernel_rfl
theorem sl3 : slCheck Tryz.prog 3 (RInt .i64).size = true := by kernel_rfl
theorem sl5 : slCheck Tryz.prog 5 (RInt .u8).size = true := by kernel_rfl
theorem sl9 : slCheck Tryz.prog 9 RStr.size = true := by kernel_rfl
theorem sl46 : slCheck Tryz.prog 46 (RInt .u64).size = true := by kernel_rfl
theorem sl62 : slCheck Tryz.prog 62 R_api_Topic.size = true := by kernel_rfl
theorem sl66 : slCheck Tryz.prog 66 R_api_Sub.size = true := by kernel_rfl
theorem sl72 : slCheck Tryz.prog 72 R_api_Dead.size = true := by kernel_rfl
theorem sl88 : slCheck Tryz.prog 88 R_api_Out.size = true := by kernel_rfl
theorem sl102 : slCheck Tryz.prog 102 R_api_Last.size = true := by kernel_rfl
theorem sl120 : slCheck Tryz.prog 120 R_api_Pred.size = true := by kernel_rfl
theorem sl123 : slCheck Tryz.prog 123 R_api_Off.size = true := by kernel_rfl
theorem sl127 : slCheck Tryz.prog 127 R_api_Inst.size = true := by kernel_rfl
theorem sl153 : slCheck Tryz.prog 153 R_api_Kept.size = true := by kernel_rfl
theorem sl202 : slCheck Tryz.prog 202 R_api_Field.size = true := by kernel_rfl
theorem zero3 : ZeroOK Tryz.prog 3 (RInt .i64) 0 := ZeroOK.one (v := .int .i64 0) (by kernel_rfl) (ZR.int (by decide)) rfl
theorem zero5 : ZeroOK Tryz.prog 5 (RInt .u8) 0 := ZeroOK.one (v := .int .u8 0) (by kernel_rfl) (ZR.int (by decide)) rfl
theorem zero28 : ZeroOK Tryz.prog 28 R_api_Router z_api_Router := ZeroOK.agg (cs := ([.int .i64 0] ++ ([.slice none 0 0] ++ ([.slice none 0 0] ++ ([.slice none 0 0] ++ ([.int .i64 0] ++ ([.slice none 0 0] ++ ([.slice none 0 0] ++ ([.slice none 0 0] ++ []))))))))) (by kernel_rfl) (ZR.map (ZR.cons (ZR.int (by decide)) (ZR.cons ZR.nil (ZR.cons ZR.nil (ZR.cons ZR.nil (ZR.cons (ZR.int (by decide)) (ZR.cons ZR.nil (ZR.cons ZR.nil (ZR.cons ZR.nil ZR.unit))))))))) rfl
theorem zero43 : ZeroOK Tryz.prog 43 R_api_Join z_api_Join := ZeroOK.agg (cs := ([.string ⟨#[]⟩] ++ ([.int .i64 0] ++ ([.int .i64 0] ++ ([.int .i64 0] ++ []))))) (by kernel_rfl) (ZR.map (ZR.cons ZR.str (ZR.cons (ZR.int (by decide)) (ZR.cons (ZR.int (by decide)) (ZR.cons (ZR.int (by decide)) ZR.unit))))) rfl
theorem zero45 : ZeroOK Tryz.prog 45 R_api_Def z_api_Def := ZeroOK.agg (cs := ([.string ⟨#[]⟩] ++ ([.slice none 0 0] ++ ([.slice none 0 0] ++ ([.string ⟨#[]⟩] ++ (([.string ⟨#[]⟩] ++ ([.int .i64 0] ++ ([.int .i64 0] ++ ([.int .i64 0] ++ [])))) ++ [])))))) (by kernel_rfl) (ZR.map (ZR.cons ZR.str (ZR.cons ZR.nil (ZR.cons ZR.nil (ZR.cons ZR.str (ZR.cons (ZR.map (ZR.cons ZR.str (ZR.cons (ZR.int (by decide)) (ZR.cons (ZR.int (by decide)) (ZR.cons (ZR.int (by decide)) ZR.unit))))) ZR.unit)))))) rfl
theorem zero48 : ZeroOK Tryz.prog 48 R_api_Op z_api_Op := ZeroOK.agg (cs := ([.int .i64 0] ++ ([.string ⟨#[]⟩] ++ (([.string ⟨#[]⟩] ++ ([.slice none 0 0] ++ ([.slice none 0 0] ++ ([.string ⟨#[]⟩] ++ (([.string ⟨#[]⟩] ++ ([.int .i64 0] ++ ([.int .i64 0] ++ ([.int .i64 0] ++ [])))) ++ []))))) ++ ([.bool false] ++ ([.int .u64 0] ++ ([.int .i64 0] ++ []))))))) (by kernel_rfl) (ZR.map (ZR.cons (ZR.int (by decide)) (ZR.cons ZR.str (ZR.cons (ZR.map (ZR.cons ZR.str (ZR.cons ZR.nil (ZR.cons ZR.nil (ZR.cons ZR.str (ZR.cons (ZR.map (ZR.cons ZR.str (ZR.cons (ZR.int (by decide)) (ZR.cons (ZR.int (by decide)) (ZR.cons (ZR.int (by decide)) ZR.unit))))) ZR.unit)))))) (ZR.cons ZR.bool (ZR.cons (ZR.int (by decide)) (ZR.cons (ZR.int (by decide)) ZR.unit))))))) rfl
theorem zero62 : ZeroOK Tryz.prog 62 R_api_Topic z_api_Topic := ZeroOK.agg (cs := ([.string ⟨#[]⟩] ++ ([.int .i64 0] ++ ([.slice none 0 0] ++ [])))) (by kernel_rfl) (ZR.map (ZR.cons ZR.str (ZR.cons (ZR.int (by decide)) (ZR.cons ZR.nil ZR.unit)))) rfl
theorem zero66 : ZeroOK Tryz.prog 66 R_api_Sub z_api_Sub := ZeroOK.agg (cs := (([.string ⟨#[]⟩] ++ ([.slice none 0 0] ++ ([.slice none 0 0] ++ ([.string ⟨#[]⟩] ++ (([.string ⟨#[]⟩] ++ ([.int .i64 0] ++ ([.int .i64 0] ++ ([.int .i64 0] ++ [])))) ++ []))))) ++ ([.slice none 0 0] ++ ([.slice none 0 0] ++ ([.int .i64 0] ++ ([.int .i64 0] ++ ([.int .i64 0] ++ ([.int .i64 0] ++ ([.int .i64 0] ++ []))))))))) (by kernel_rfl) (ZR.map (ZR.cons (ZR.map (ZR.cons ZR.str (ZR.cons ZR.nil (ZR.cons ZR.nil (ZR.cons ZR.str (ZR.cons (ZR.map (ZR.cons ZR.str (ZR.cons (ZR.int (by decide)) (ZR.cons (ZR.int (by decide)) (ZR.cons (ZR.int (by decide)) ZR.unit))))) ZR.unit)))))) (ZR.cons ZR.nil (ZR.cons ZR.nil (ZR.cons (ZR.int (by decide)) (ZR.cons (ZR.int (by decide)) (ZR.cons (ZR.int (by decide)) (ZR.cons (ZR.int (by decide)) (ZR.cons (ZR.int (by decide)) ZR.unit))))))))) rfl
theorem zero72 : ZeroOK Tryz.prog 72 R_api_Dead z_api_Dead := ZeroOK.agg (cs := ([.string ⟨#[]⟩] ++ ([.string ⟨#[]⟩] ++ []))) (by kernel_rfl) (ZR.map (ZR.cons ZR.str (ZR.cons ZR.str ZR.unit))) rfl
theorem zero88 : ZeroOK Tryz.prog 88 R_api_Out z_api_Out := ZeroOK.agg (cs := ([.int .u64 0] ++ ([.string ⟨#[]⟩] ++ ([.slice none 0 0] ++ ([.int .i64 0] ++ ([.int .i64 0] ++ [])))))) (by kernel_rfl) (ZR.map (ZR.cons (ZR.int (by decide)) (ZR.cons ZR.str (ZR.cons ZR.nil (ZR.cons (ZR.int (by decide)) (ZR.cons (ZR.int (by decide)) ZR.unit)))))) rfl
theorem zero92 : ZeroOK Tryz.prog 92 R_api_Event z_api_Event := ZeroOK.agg (cs := ([.string ⟨#[]⟩] ++ ([.string ⟨#[]⟩] ++ ([.int .u64 0] ++ ([.slice none 0 0] ++ []))))) (by kernel_rfl) (ZR.map (ZR.cons ZR.str (ZR.cons ZR.str (ZR.cons (ZR.int (by decide)) (ZR.cons ZR.nil ZR.unit))))) rfl
theorem zero97 : ZeroOK Tryz.prog 97 R_shelf_eye z_shelf_eye := ZeroOK.agg (cs := ([.string ⟨#[]⟩] ++ ([.bool false] ++ []))) (by kernel_rfl) (ZR.map (ZR.cons ZR.str (ZR.cons ZR.bool ZR.unit))) rfl
theorem zero102 : ZeroOK Tryz.prog 102 R_api_Last z_api_Last := ZeroOK.agg (cs := ([.string ⟨#[]⟩] ++ ([.int .u64 0] ++ ([.int .i64 0] ++ [])))) (by kernel_rfl) (ZR.map (ZR.cons ZR.str (ZR.cons (ZR.int (by decide)) (ZR.cons (ZR.int (by decide)) ZR.unit)))) rfl
theorem zero118 : ZeroOK Tryz.prog 118 R_api_Value z_api_Value := ZeroOK.agg (cs := ([.bool false] ++ ([.int .i64 0] ++ ([.string ⟨#[]⟩] ++ [])))) (by kernel_rfl) (ZR.map (ZR.cons ZR.bool (ZR.cons (ZR.int (by decide)) (ZR.cons ZR.str ZR.unit)))) rfl
theorem zero120 : ZeroOK Tryz.prog 120 R_api_Pred z_api_Pred := ZeroOK.agg (cs := ([.string ⟨#[]⟩] ++ ([.string ⟨#[]⟩] ++ (([.bool false] ++ ([.int .i64 0] ++ ([.string ⟨#[]⟩] ++ []))) ++ ([.slice none 0 0] ++ []))))) (by kernel_rfl) (ZR.pt (ZR.map (ZR.cons ZR.str (ZR.cons ZR.str (ZR.cons (ZR.map (ZR.cons ZR.bool (ZR.cons (ZR.int (by decide)) (ZR.cons ZR.str ZR.unit)))) (ZR.cons ZR.nil ZR.unit)))))) rfl
theorem zero123 : ZeroOK Tryz.prog 123 R_api_Off z_api_Off := ZeroOK.agg (cs := ([.string ⟨#[]⟩] ++ ([.int .i64 0] ++ []))) (by kernel_rfl) (ZR.map (ZR.cons ZR.str (ZR.cons (ZR.int (by decide)) ZR.unit))) rfl
theorem zero127 : ZeroOK Tryz.prog 127 R_api_Inst z_api_Inst := ZeroOK.agg (cs := (([.bool false] ++ ([.int .i64 0] ++ ([.string ⟨#[]⟩] ++ []))) ++ ([.slice none 0 0] ++ []))) (by kernel_rfl) (ZR.map (ZR.cons (ZR.map (ZR.cons ZR.bool (ZR.cons (ZR.int (by decide)) (ZR.cons ZR.str ZR.unit)))) (ZR.cons ZR.nil ZR.unit))) rfl
theorem zero153 : ZeroOK Tryz.prog 153 R_api_Kept z_api_Kept := ZeroOK.agg (cs := ([.int .i64 0] ++ ([.int .u64 0] ++ ([.int .i64 0] ++ [])))) (by kernel_rfl) (ZR.map (ZR.cons (ZR.int (by decide)) (ZR.cons (ZR.int (by decide)) (ZR.cons (ZR.int (by decide)) ZR.unit)))) rfl
theorem zero183 : ZeroOK Tryz.prog 183 (RArr 2 (RSlice R_api_Out)) (List.replicate 2 []) := ZeroOK.agg (cs := (List.replicate 2 [.slice none 0 0]).flatten) (by kernel_rfl) (ZR.arr ZR.nil) rfl
theorem zero192 : ZeroOK Tryz.prog 192 (RArr 5 (RInt .i64)) (List.replicate 5 0) := ZeroOK.agg (cs := (List.replicate 5 [.int .i64 0]).flatten) (by kernel_rfl) (ZR.arr (ZR.int (by decide))) rfl
theorem zero202 : ZeroOK Tryz.prog 202 R_api_Field z_api_Field := ZeroOK.agg (cs := ([.string ⟨#[]⟩] ++ (([.bool false] ++ ([.int .i64 0] ++ ([.string ⟨#[]⟩] ++ []))) ++ []))) (by kernel_rfl) (ZR.map (ZR.cons ZR.str (ZR.cons (ZR.map (ZR.cons ZR.bool (ZR.cons (ZR.int (by decide)) (ZR.cons ZR.str ZR.unit)))) ZR.unit))) rfl
theorem zero241 : ZeroOK Tryz.prog 241 R_event_reader z_event_reader := ZeroOK.agg (cs := ([.string ⟨#[]⟩] ++ ([.int .i64 0] ++ ([.int .i64 0] ++ [])))) (by kernel_rfl) (ZR.map (ZR.cons ZR.str (ZR.cons (ZR.int (by decide)) (ZR.cons (ZR.int (by decide)) ZR.unit)))) rfl
theorem zero259 : ZeroOK Tryz.prog 259 R_pred_walk z_pred_walk := ZeroOK.agg (cs := ([.int .i64 0] ++ [])) (by kernel_rfl) (ZR.map (ZR.cons (ZR.int (by decide)) ZR.unit)) rfl
theorem zero282 : ZeroOK Tryz.prog 282 R_pred_parser z_pred_parser := ZeroOK.agg (cs := ([.string ⟨#[]⟩] ++ ([.int .i64 0] ++ []))) (by kernel_rfl) (ZR.map (ZR.cons ZR.str (ZR.cons (ZR.int (by decide)) ZR.unit))) rfl
theorem zero310 : ZeroOK Tryz.prog 310 (RArr 6 RBool) (List.replicate 6 false) := ZeroOK.agg (cs := (List.replicate 6 [.bool false]).flatten) (by kernel_rfl) (ZR.arr ZR.bool) rfl
theorem zero28n3_7 : ZeroOK Tryz.prog 28 (RNilAt R_api_Router [3, 7]) z_api_Router := ZeroOK.nilAt (cs := ([.int .i64 0] ++ ([.slice none 0 0] ++ ([.slice none 0 0] ++ ([.slice none 0 0] ++ ([.int .i64 0] ++ ([.slice none 0 0] ++ ([.slice none 0 0] ++ ([.slice none 0 0] ++ []))))))))) (by kernel_rfl) zero28 rfl (.cons rfl (.cons rfl .nil))
theorem zero45n1_2 : ZeroOK Tryz.prog 45 (RNilAt R_api_Def [1, 2]) z_api_Def := ZeroOK.nilAt (cs := ([.string ⟨#[]⟩] ++ ([.slice none 0 0] ++ ([.slice none 0 0] ++ ([.string ⟨#[]⟩] ++ (([.string ⟨#[]⟩] ++ ([.int .i64 0] ++ ([.int .i64 0] ++ ([.int .i64 0] ++ [])))) ++ [])))))) (by kernel_rfl) zero45 rfl (.cons rfl (.cons rfl .nil))
theorem zero62n2 : ZeroOK Tryz.prog 62 (RNilAt R_api_Topic [2]) z_api_Topic := ZeroOK.nilAt (cs := ([.string ⟨#[]⟩] ++ ([.int .i64 0] ++ ([.slice none 0 0] ++ [])))) (by kernel_rfl) zero62 rfl (.cons rfl .nil)
theorem zero92n3 : ZeroOK Tryz.prog 92 (RNilAt R_api_Event [3]) z_api_Event := ZeroOK.nilAt (cs := ([.string ⟨#[]⟩] ++ ([.string ⟨#[]⟩] ++ ([.int .u64 0] ++ ([.slice none 0 0] ++ []))))) (by kernel_rfl) zero92 rfl (.cons rfl .nil)
theorem zero120n5 : ZeroOK Tryz.prog 120 (RNilAt R_api_Pred [5]) z_api_Pred := ZeroOK.nilAt (cs := ([.string ⟨#[]⟩] ++ ([.string ⟨#[]⟩] ++ (([.bool false] ++ ([.int .i64 0] ++ ([.string ⟨#[]⟩] ++ []))) ++ ([.slice none 0 0] ++ []))))) (by kernel_rfl) zero120 rfl (.cons rfl .nil)
def u2 := Tryz.underlying2
def u3 := Tryz.underlying3
def u5 := Tryz.underlying5
def u8 := Tryz.underlying8
def u9 := Tryz.underlying9
def u22 := Tryz.underlying22
def u23 := Tryz.underlying23
def u24 := Tryz.underlying24
def u25 := Tryz.underlying25
def u26 := Tryz.underlying26
def u40 := Tryz.underlying40
def u41 := Tryz.underlying41
def u46 := Tryz.underlying46
def u63 := Tryz.underlying63
def u64 := Tryz.underlying64
def u75 := Tryz.underlying75
def u86 := Tryz.underlying86
def u90 := Tryz.underlying90
def u125 := Tryz.underlying125
def u183 := Tryz.underlying183
def u192 := Tryz.underlying192
def u218 := Tryz.underlying218
def u288 := Tryz.underlying288
def u298 := Tryz.underlying298
def u310 := Tryz.underlying310
def u313 := Tryz.underlying313
abbrev PC (f : Nat) (ins : List Ent) (out : Ent) : Prop := PCon Base Tryz.prog f ins out
abbrev SC (f : Nat) (Ωi : Omg) (ins : List Ent) (Ωo : Omg) (out : Ent) : Prop := SCon Base Tryz.prog f Ωi ins Ωo out
abbrev SW (f : Nat) (Ωi : Omg) (ins : List Ent) (Ωo : Omg) (out : Ent) : Prop := SWp Base Tryz.prog f Ωi ins Ωo out
theorem zo {Γ : Gam} {Ω : Omg} {F : List Nat} {x : Operand} {α : Type} {R : RT α} {d : α} (h : Opd Γ x (D R d)) : OpdF Γ Ω F x (D R d) := OpdF.of h
theorem ze {Γ : Gam} {Ω : Omg} {F : List Nat} {t : Nat} {xs : List Operand} {es : List Ent} {α : Type} {R : RT α} {d : α} (k : OpdsF Γ Ω F xs es) (h : Γ.lookup t = some (D R d) := by rfl) : OpdsF Γ Ω F (.tmp t :: xs) (D R d :: es) := .cons (OpdF.of (Opd.tmp h)) k
theorem zt {Γ : Gam} {Ω : Omg} {F : List Nat} {t : Nat} {α : Type} {R : RT α} {d : α} (h : Γ.lookup t = some (D R d) := by rfl) : OpdF Γ Ω F (.tmp t) (D R d) := OpdF.of (Opd.tmp h)
theorem zc {Γ : Gam} {Ω : Omg} {F : List Nat} {x : Operand} {e : Ent} {xs : List Operand} {es : List Ent} (h : OpdF Γ Ω F x e) (k : OpdsF Γ Ω F xs es) : OpdsF Γ Ω F (x :: xs) (e :: es) := .cons h k
theorem zn {Γ : Gam} {Ω : Omg} {F : List Nat} : OpdsF Γ Ω F [] [] := .nil
end Go.Proofs
