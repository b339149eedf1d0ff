import Derived.Test.YthdcblpadgdamaaGreatDoorTpShort
import Derived.Test.YthdcblpadgdamaaGreatDoorTrwRead
set_option linter.all false
set_option maxRecDepth 100000
namespace Go.Proofs
open Go Go.Trw
def okB (_ : Bool) : Prop := True
section
variable {w : World}
theorem rd3 (n : Nat) : Rd Tryz.prog w n 3 (RInt .i64) (inK .i64) := rd_int Tryz.underlying3
theorem rd9 (n : Nat) : Rd Tryz.prog w n 9 RStr (okS maxS) := rd_str Tryz.underlying9
theorem rd40 : ∀ n, Rd Tryz.prog w n 40 (RSlice RStr) (okL maxS (okS maxS))
  | 0 => Rd.zero
  | n + 1 => rd_slice Tryz.underlying40 (rd9 n) (by kernel_rfl) (by decide)
theorem rd62 : ∀ n, Rd Tryz.prog w n 62 R_api_Topic (ok_Topic maxS)
  | 0 => Rd.zero
  | n + 1 => Rd.mono (rd_struct (okT := fun d => (okS maxS) d.1 ∧ (inK .i64) d.2.1 ∧ (okL maxS (okS maxS)) d.2.2.1 ∧ True) Tryz.underlying62 (.cons rfl (by kernel_rfl) (rd9 n) (.cons rfl (by kernel_rfl) (rd3 n) (.cons rfl (by kernel_rfl) (rd40 n) RdFs.nil))) (by kernel_rfl) (fun (v : api_Topic) => (v.Name, v.First, v.Log, ())) (fun d => (⟨d.1, d.2.1, d.2.2.1⟩ : api_Topic)) (fun _ => rfl)) (fun d h => ⟨h.1, h.2.1, h.2.2.1⟩)
theorem rd22 : ∀ n, Rd Tryz.prog w n 22 (RSlice R_api_Topic) (okL maxS (ok_Topic maxS))
  | 0 => Rd.zero
  | n + 1 => rd_slice Tryz.underlying22 (rd62 n) (by kernel_rfl) (by decide)
theorem rd46 (n : Nat) : Rd Tryz.prog w n 46 (RInt .u64) (inK .u64) := rd_int Tryz.underlying46
theorem rd102 : ∀ n, Rd Tryz.prog w n 102 R_api_Last (ok_Last maxS)
  | 0 => Rd.zero
  | n + 1 => Rd.mono (rd_struct (okT := fun d => (okS maxS) d.1 ∧ (inK .u64) d.2.1 ∧ (inK .i64) d.2.2.1 ∧ True) Tryz.underlying102 (.cons rfl (by kernel_rfl) (rd9 n) (.cons rfl (by kernel_rfl) (rd46 n) (.cons rfl (by kernel_rfl) (rd3 n) RdFs.nil))) (by kernel_rfl) (fun (v : api_Last) => (v.Producer, v.Seq, v.Offset, ())) (fun d => (⟨d.1, d.2.1, d.2.2.1⟩ : api_Last)) (fun _ => rfl)) (fun d h => ⟨h.1, h.2.1, h.2.2.1⟩)
theorem rd23 : ∀ n, Rd Tryz.prog w n 23 (RSlice R_api_Last) (okL maxS (ok_Last maxS))
  | 0 => Rd.zero
  | n + 1 => rd_slice Tryz.underlying23 (rd102 n) (by kernel_rfl) (by decide)
theorem rd4 (n : Nat) : Rd Tryz.prog w n 4 RBool okB := rd_bool Tryz.underlying4
theorem rd2 (n : Nat) : Rd Tryz.prog w n 2 (RInt .i64) (inK .i64) := rd_int Tryz.underlying2
theorem rd118 : ∀ n, Rd Tryz.prog w n 118 R_api_Value (ok_Value maxS)
  | 0 => Rd.zero
  | n + 1 => Rd.mono (rd_struct (okT := fun d => okB d.1 ∧ (inK .i64) d.2.1 ∧ (okS maxS) d.2.2.1 ∧ True) Tryz.underlying118 (.cons rfl (by kernel_rfl) (rd4 n) (.cons rfl (by kernel_rfl) (rd2 n) (.cons rfl (by kernel_rfl) (rd9 n) RdFs.nil))) (by kernel_rfl) (fun (v : api_Value) => (v.Num, v.N, v.S, ())) (fun d => (⟨d.1, d.2.1, d.2.2.1⟩ : api_Value)) (fun _ => rfl)) (fun d h => ⟨h.2.1, h.2.2.1⟩)
theorem rd120_ : ∀ n, Rd Tryz.prog w n 120 R_api_Pred (ok_Pred maxS) ∧ Rd Tryz.prog w n 41 (RSlice R_api_Pred) (okL maxS (ok_Pred maxS))
  | 0 => ⟨Rd.zero, Rd.zero⟩
  | n + 1 => by
    have ih := rd120_ n
    refine ⟨Rd.mono (Rd.pt (rd_struct (okT := fun d => okS maxS d.1 ∧ okS maxS d.2.1 ∧ ok_Value maxS d.2.2.1 ∧ okL maxS (ok_Pred maxS) d.2.2.2.1 ∧ True) Tryz.underlying120 (.cons rfl (by kernel_rfl) (rd9 n) (.cons rfl (by kernel_rfl) (rd9 n) (.cons rfl (by kernel_rfl) (rd118 n) (.cons rfl (by kernel_rfl) ih.2 RdFs.nil)))) (by kernel_rfl) ptOf (fun d => ⟨d.1, d.2.1, d.2.2.1, d.2.2.2.1⟩) (fun _ => rfl))) ?_, rd_slice Tryz.underlying41 ih.1 (by kernel_rfl) (by decide)⟩
    rintro ⟨o, s, v, l⟩ ⟨h1, h2, h3, h4, _⟩
    exact ok_Pred.put ⟨h1, h2, h3, h4⟩
theorem rd120 (n : Nat) : Rd Tryz.prog w n 120 R_api_Pred (ok_Pred maxS) := (rd120_ n).1
theorem rd41 (n : Nat) : Rd Tryz.prog w n 41 (RSlice R_api_Pred) (okL maxS (ok_Pred maxS)) := (rd120_ n).2
theorem rd43 : ∀ n, Rd Tryz.prog w n 43 R_api_Join (ok_Join maxS)
  | 0 => Rd.zero
  | n + 1 => Rd.mono (rd_struct (okT := fun d => (okS maxS) d.1 ∧ (inK .i64) d.2.1 ∧ (inK .i64) d.2.2.1 ∧ (inK .i64) d.2.2.2.1 ∧ True) Tryz.underlying43 (.cons rfl (by kernel_rfl) (rd9 n) (.cons rfl (by kernel_rfl) (rd3 n) (.cons rfl (by kernel_rfl) (rd3 n) (.cons rfl (by kernel_rfl) (rd3 n) RdFs.nil)))) (by kernel_rfl) (fun (v : api_Join) => (v.Kind, v.Parts, v.Need, v.Window, ())) (fun d => (⟨d.1, d.2.1, d.2.2.1, d.2.2.2.1⟩ : api_Join)) (fun _ => rfl)) (fun d h => ⟨h.1, h.2.1, h.2.2.1, h.2.2.2.1⟩)
theorem rd45 : ∀ n, Rd Tryz.prog w n 45 R_api_Def (ok_Def maxS)
  | 0 => Rd.zero
  | n + 1 => Rd.mono (rd_struct (okT := fun d => (okS maxS) d.1 ∧ (okL maxS (okS maxS)) d.2.1 ∧ (okL maxS (ok_Pred maxS)) d.2.2.1 ∧ (okS maxS) d.2.2.2.1 ∧ (ok_Join maxS) d.2.2.2.2.1 ∧ True) Tryz.underlying45 (.cons rfl (by kernel_rfl) (rd9 n) (.cons rfl (by kernel_rfl) (rd40 n) (.cons rfl (by kernel_rfl) (rd41 n) (.cons rfl (by kernel_rfl) (rd9 n) (.cons rfl (by kernel_rfl) (rd43 n) RdFs.nil))))) (by kernel_rfl) (fun (v : api_Def) => (v.Name, v.Globs, v.Where, v.Key, v.J, ())) (fun d => (⟨d.1, d.2.1, d.2.2.1, d.2.2.2.1, d.2.2.2.2.1⟩ : api_Def)) (fun _ => rfl)) (fun d h => ⟨h.1, h.2.1, h.2.2.1, h.2.2.2.1, h.2.2.2.2.1⟩)
theorem rd123 : ∀ n, Rd Tryz.prog w n 123 R_api_Off (ok_Off maxS)
  | 0 => Rd.zero
  | n + 1 => Rd.mono (rd_struct (okT := fun d => (okS maxS) d.1 ∧ (inK .i64) d.2.1 ∧ True) Tryz.underlying123 (.cons rfl (by kernel_rfl) (rd9 n) (.cons rfl (by kernel_rfl) (rd3 n) RdFs.nil)) (by kernel_rfl) (fun (v : api_Off) => (v.Topic, v.Next, ())) (fun d => (⟨d.1, d.2.1⟩ : api_Off)) (fun _ => rfl)) (fun d h => ⟨h.1, h.2.1⟩)
theorem rd63 : ∀ n, Rd Tryz.prog w n 63 (RSlice R_api_Off) (okL maxS (ok_Off maxS))
  | 0 => Rd.zero
  | n + 1 => rd_slice Tryz.underlying63 (rd123 n) (by kernel_rfl) (by decide)
theorem rd153 : ∀ n, Rd Tryz.prog w n 153 R_api_Kept ok_Kept
  | 0 => Rd.zero
  | n + 1 => Rd.mono (rd_struct (okT := fun d => (inK .i64) d.1 ∧ (inK .u64) d.2.1 ∧ (inK .i64) d.2.2.1 ∧ True) Tryz.underlying153 (.cons rfl (by kernel_rfl) (rd3 n) (.cons rfl (by kernel_rfl) (rd46 n) (.cons rfl (by kernel_rfl) (rd3 n) RdFs.nil))) (by kernel_rfl) (fun (v : api_Kept) => (v.Part, v.Id, v.At, ())) (fun d => (⟨d.1, d.2.1, d.2.2.1⟩ : api_Kept)) (fun _ => rfl)) (fun d h => ⟨h.1, h.2.1, h.2.2.1⟩)
theorem rd125 : ∀ n, Rd Tryz.prog w n 125 (RSlice R_api_Kept) (okL maxS ok_Kept)
  | 0 => Rd.zero
  | n + 1 => rd_slice Tryz.underlying125 (rd153 n) (by kernel_rfl) (by decide)
theorem rd127 : ∀ n, Rd Tryz.prog w n 127 R_api_Inst (ok_Inst maxS)
  | 0 => Rd.zero
  | n + 1 => Rd.mono (rd_struct (okT := fun d => (ok_Value maxS) d.1 ∧ (okL maxS ok_Kept) d.2.1 ∧ True) Tryz.underlying127 (.cons rfl (by kernel_rfl) (rd118 n) (.cons rfl (by kernel_rfl) (rd125 n) RdFs.nil)) (by kernel_rfl) (fun (v : api_Inst) => (v.Key, v.L, ())) (fun d => (⟨d.1, d.2.1⟩ : api_Inst)) (fun _ => rfl)) (fun d h => ⟨h.1, h.2.1⟩)
theorem rd64 : ∀ n, Rd Tryz.prog w n 64 (RSlice R_api_Inst) (okL maxS (ok_Inst maxS))
  | 0 => Rd.zero
  | n + 1 => rd_slice Tryz.underlying64 (rd127 n) (by kernel_rfl) (by decide)
theorem rd66 : ∀ n, Rd Tryz.prog w n 66 R_api_Sub (ok_Sub maxS)
  | 0 => Rd.zero
  | n + 1 => Rd.mono (rd_struct (okT := fun d => (ok_Def maxS) d.1 ∧ (okL maxS (ok_Off maxS)) d.2.1 ∧ (okL maxS (ok_Inst maxS)) d.2.2.1 ∧ (inK .i64) d.2.2.2.1 ∧ (inK .i64) d.2.2.2.2.1 ∧ (inK .i64) d.2.2.2.2.2.1 ∧ (inK .i64) d.2.2.2.2.2.2.1 ∧ (inK .i64) d.2.2.2.2.2.2.2.1 ∧ True) Tryz.underlying66 (.cons rfl (by kernel_rfl) (rd45 n) (.cons rfl (by kernel_rfl) (rd63 n) (.cons rfl (by kernel_rfl) (rd64 n) (.cons rfl (by kernel_rfl) (rd3 n) (.cons rfl (by kernel_rfl) (rd3 n) (.cons rfl (by kernel_rfl) (rd3 n) (.cons rfl (by kernel_rfl) (rd3 n) (.cons rfl (by kernel_rfl) (rd3 n) RdFs.nil)))))))) (by kernel_rfl) (fun (v : api_Sub) => (v.D, v.Offs, v.Insts, v.Fails, v.Taken, v.Passes, v.Fires, v.Over, ())) (fun d => (⟨d.1, d.2.1, d.2.2.1, d.2.2.2.1, d.2.2.2.2.1, d.2.2.2.2.2.1, d.2.2.2.2.2.2.1, d.2.2.2.2.2.2.2.1⟩ : api_Sub)) (fun _ => rfl)) (fun d h => ⟨h.1, h.2.1, h.2.2.1, h.2.2.2.1, h.2.2.2.2.1, h.2.2.2.2.2.1, h.2.2.2.2.2.2.1, h.2.2.2.2.2.2.2.1⟩)
theorem rd24 : ∀ n, Rd Tryz.prog w n 24 (RSlice R_api_Sub) (okL maxS (ok_Sub maxS))
  | 0 => Rd.zero
  | n + 1 => rd_slice Tryz.underlying24 (rd66 n) (by kernel_rfl) (by decide)
theorem rd86 : ∀ n, Rd Tryz.prog w n 86 (RSlice (RInt .u64)) (okL maxS (inK .u64))
  | 0 => Rd.zero
  | n + 1 => rd_slice Tryz.underlying86 (rd46 n) (by kernel_rfl) (by decide)
theorem rd88 : ∀ n, Rd Tryz.prog w n 88 R_api_Out (ok_Out maxS)
  | 0 => Rd.zero
  | n + 1 => Rd.mono (rd_struct (okT := fun d => (inK .u64) d.1 ∧ (okS maxS) d.2.1 ∧ (okL maxS (inK .u64)) d.2.2.1 ∧ (inK .i64) d.2.2.2.1 ∧ (inK .i64) d.2.2.2.2.1 ∧ True) Tryz.underlying88 (.cons rfl (by kernel_rfl) (rd46 n) (.cons rfl (by kernel_rfl) (rd9 n) (.cons rfl (by kernel_rfl) (rd86 n) (.cons rfl (by kernel_rfl) (rd3 n) (.cons rfl (by kernel_rfl) (rd3 n) RdFs.nil))))) (by kernel_rfl) (fun (v : api_Out) => (v.Id, v.Sub, v.Ids, v.Tries, v.Due, ())) (fun d => (⟨d.1, d.2.1, d.2.2.1, d.2.2.2.1, d.2.2.2.2.1⟩ : api_Out)) (fun _ => rfl)) (fun d h => ⟨h.1, h.2.1, h.2.2.1, h.2.2.2.1, h.2.2.2.2.1⟩)
theorem rd25 : ∀ n, Rd Tryz.prog w n 25 (RSlice R_api_Out) (okL maxS (ok_Out maxS))
  | 0 => Rd.zero
  | n + 1 => rd_slice Tryz.underlying25 (rd88 n) (by kernel_rfl) (by decide)
theorem rd72 : ∀ n, Rd Tryz.prog w n 72 R_api_Dead (ok_Dead maxS)
  | 0 => Rd.zero
  | n + 1 => Rd.mono (rd_struct (okT := fun d => (okS maxS) d.1 ∧ (okS maxS) d.2.1 ∧ True) Tryz.underlying72 (.cons rfl (by kernel_rfl) (rd9 n) (.cons rfl (by kernel_rfl) (rd9 n) RdFs.nil)) (by kernel_rfl) (fun (v : api_Dead) => (v.Sub, v.E, ())) (fun d => (⟨d.1, d.2.1⟩ : api_Dead)) (fun _ => rfl)) (fun d h => ⟨h.1, h.2.1⟩)
theorem rd26 : ∀ n, Rd Tryz.prog w n 26 (RSlice R_api_Dead) (okL maxS (ok_Dead maxS))
  | 0 => Rd.zero
  | n + 1 => rd_slice Tryz.underlying26 (rd72 n) (by kernel_rfl) (by decide)
theorem rd28 : ∀ n, Rd Tryz.prog w n 28 R_api_Router (ok_Router maxS)
  | 0 => Rd.zero
  | n + 1 => Rd.mono (rd_struct (okT := fun d => (inK .i64) d.1 ∧ (okL maxS (ok_Topic maxS)) d.2.1 ∧ (okL maxS (ok_Last maxS)) d.2.2.1 ∧ (okL maxS (ok_Sub maxS)) d.2.2.2.1 ∧ (inK .i64) d.2.2.2.2.1 ∧ (okL maxS (ok_Out maxS)) d.2.2.2.2.2.1 ∧ (okL maxS (ok_Out maxS)) d.2.2.2.2.2.2.1 ∧ (okL maxS (ok_Dead maxS)) d.2.2.2.2.2.2.2.1 ∧ True) Tryz.underlying28 (.cons rfl (by kernel_rfl) (rd3 n) (.cons rfl (by kernel_rfl) (rd22 n) (.cons rfl (by kernel_rfl) (rd23 n) (.cons rfl (by kernel_rfl) (rd24 n) (.cons rfl (by kernel_rfl) (rd3 n) (.cons rfl (by kernel_rfl) (rd25 n) (.cons rfl (by kernel_rfl) (rd25 n) (.cons rfl (by kernel_rfl) (rd26 n) RdFs.nil)))))))) (by kernel_rfl) (fun (v : api_Router) => (v.Now, v.Topics, v.Lasts, v.Subs, v.Total, v.Out, v.Given, v.Dead, ())) (fun d => (⟨d.1, d.2.1, d.2.2.1, d.2.2.2.1, d.2.2.2.2.1, d.2.2.2.2.2.1, d.2.2.2.2.2.2.1, d.2.2.2.2.2.2.2.1⟩ : api_Router)) (fun _ => rfl)) (fun d h => ⟨h.1, h.2.1, h.2.2.1, h.2.2.2.1, h.2.2.2.2.1, h.2.2.2.2.2.1, h.2.2.2.2.2.2.1, h.2.2.2.2.2.2.2.1⟩)
theorem rd48 : ∀ n, Rd Tryz.prog w n 48 R_api_Op (ok_Op maxS)
  | 0 => Rd.zero
  | n + 1 => Rd.mono (rd_struct (okT := fun d => (inK .i64) d.1 ∧ (okS maxS) d.2.1 ∧ (ok_Def maxS) d.2.2.1 ∧ okB d.2.2.2.1 ∧ (inK .u64) d.2.2.2.2.1 ∧ (inK .i64) d.2.2.2.2.2.1 ∧ True) Tryz.underlying48 (.cons rfl (by kernel_rfl) (rd3 n) (.cons rfl (by kernel_rfl) (rd9 n) (.cons rfl (by kernel_rfl) (rd45 n) (.cons rfl (by kernel_rfl) (rd4 n) (.cons rfl (by kernel_rfl) (rd46 n) (.cons rfl (by kernel_rfl) (rd3 n) RdFs.nil)))))) (by kernel_rfl) (fun (v : api_Op) => (v.Kind, v.S, v.D, v.Ok, v.Id, v.N, ())) (fun d => (⟨d.1, d.2.1, d.2.2.1, d.2.2.2.1, d.2.2.2.2.1, d.2.2.2.2.2.1⟩ : api_Op)) (fun _ => rfl)) (fun d h => ⟨h.1, h.2.1, h.2.2.1, h.2.2.2.2.1, h.2.2.2.2.2.1⟩)
theorem rd5 (n : Nat) : Rd Tryz.prog w n 5 (RInt .u8) (inK .u8) := rd_int Tryz.underlying5
end
end Go.Proofs
