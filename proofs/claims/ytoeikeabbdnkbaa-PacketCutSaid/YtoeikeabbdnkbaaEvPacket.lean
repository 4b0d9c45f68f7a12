/- PRINTED BY resid.py (ours): each function's calls come to what is printed of it. -/
import Derived.Test.YtoeikeabbdnkbaaFnPacket
import Derived.Test.YtoeikeabbdnkbaaAbG
import Derived.Test.YtoeikeabbdnkbaaProg
import Derived.Test.YtoeikeabbdnkbaaEvFrameP
import Derived.Test.YtoeikeabbdnkbaaEvPR
namespace Go.Proofs.Ytoeikeabbdnkbaa.A
open Go Go.Proofs.Ytoeikeabbdnkbaa.Ab
set_option linter.unusedVariables false
set_option maxRecDepth 100000
def ref01_Int_sig (k : Nat) : Sig := ⟨[(.int .i64)], [.str, (.int .i64)], fun x => ref01_Int k x.1⟩
def ref01_Int_g (k : Nat) : FuncId → Option Sig := Ab.look []
def ref01_Int_h (f r : Nat) : Option Hint := (Ab.look (α := List (Nat × Hint)) [(139, [(8, ⟨[.row 5 5 (.int .u8), .tmp 0 (.int .i64)], [16, 17, 18, 19, 20, 21, 22, 23, 24, 25]⟩)])] f).bind fun l => Ab.look l r
theorem ref01_Int_ev (k : Nat) (x : (List.foldr Ty.cons .nil [(.int .i64)]).den) : evTop Go.Proofs.Try.prog ref01_Int_g ref01_Int_h 20 k 139 (argAVs [(.int .i64)] x) [.str, (.int .i64)] = ref01_Int k x.1 := by kernel_rfl
theorem ref01_Int_ok (k : Nat) : FnOk Go.Proofs.Try.prog 139 (ref01_Int_sig k) := fn_ok' (Γ := ref01_Int_g) (H := ref01_Int_h) (fun k => GOk.nil) (by kernel_rfl) (by kernel_rfl) (ref01_Int_ev k)
def ref01_GetInt_sig (k : Nat) : Sig := ⟨[.str], [(.int .i64), .str, (.int .i64)], fun x => ref01_GetInt k x.1⟩
def ref01_GetInt_g (k : Nat) : FuncId → Option Sig := Ab.look [(139, ref01_Int_sig k)]
def ref01_GetInt_h (f r : Nat) : Option Hint := (Ab.look (α := List (Nat × Hint)) [(125, [(3, ⟨[.tmp 6 .bool, .tmp 5 (.int .i64)], [11, 12, 13, 14, 15, 16, 17, 18, 19, 20, 21, 22, 23, 24, 25, 26, 27, 28, 29]⟩), (12, ⟨[.tmp 7 (.int .i64), .tmp 8 (.int .i64)], [41, 42, 45, 46, 47, 48, 49, 50, 51, 43, 44]⟩)])] f).bind fun l => Ab.look l r
theorem ref01_GetInt_ev (k : Nat) (x : (List.foldr Ty.cons .nil [.str]).den) : evTop Go.Proofs.Try.prog ref01_GetInt_g ref01_GetInt_h 20 k 125 (argAVs [.str] x) [(.int .i64), .str, (.int .i64)] = ref01_GetInt k x.1 := by kernel_rfl
theorem ref01_GetInt_ok (k : Nat) : FnOk Go.Proofs.Try.prog 125 (ref01_GetInt_sig k) := fn_ok' (Γ := ref01_GetInt_g) (H := ref01_GetInt_h) (fun k => (.cons (ref01_Int_ok k) GOk.nil)) (by kernel_rfl) (by kernel_rfl) (ref01_GetInt_ev k)
def ref01_GetText_sig (k : Nat) : Sig := ⟨[.str], [.str, .str, (.int .i64)], fun x => ref01_GetText k x.1⟩
def ref01_GetText_g (k : Nat) : FuncId → Option Sig := Ab.look [(125, ref01_GetInt_sig k)]
def ref01_GetText_h (f r : Nat) : Option Hint := (Ab.look (α := List (Nat × Hint)) [] f).bind fun l => Ab.look l r
theorem ref01_GetText_ev (k : Nat) (x : (List.foldr Ty.cons .nil [.str]).den) : evTop Go.Proofs.Try.prog ref01_GetText_g ref01_GetText_h 20 k 132 (argAVs [.str] x) [.str, .str, (.int .i64)] = ref01_GetText k x.1 := by kernel_rfl
theorem ref01_GetText_ok (k : Nat) : FnOk Go.Proofs.Try.prog 132 (ref01_GetText_sig k) := fn_ok' (Γ := ref01_GetText_g) (H := ref01_GetText_h) (fun k => (.cons (ref01_GetInt_ok k) GOk.nil)) (by kernel_rfl) (by kernel_rfl) (ref01_GetText_ev k)
def ref02_Unlike_sig (k : Nat) : Sig := ⟨[(.int .i64), (.int .i64)], [(.int .i64)], fun x => ref02_Unlike k x.1 x.2.1⟩
def ref02_Unlike_g (k : Nat) : FuncId → Option Sig := Ab.look []
def ref02_Unlike_h (f r : Nat) : Option Hint := (Ab.look (α := List (Nat × Hint)) [(158, [(4, ⟨[.tmp 5 (.int .i64), .tmp 6 (.int .i64), .tmp 7 (.int .i64)], [8, 9, 12, 13, 14, 15, 16, 17, 18, 19, 20, 21, 22, 23, 24, 25, 10, 11]⟩)])] f).bind fun l => Ab.look l r
theorem ref02_Unlike_ev (k : Nat) (x : (List.foldr Ty.cons .nil [(.int .i64), (.int .i64)]).den) : evTop Go.Proofs.Try.prog ref02_Unlike_g ref02_Unlike_h 20 k 158 (argAVs [(.int .i64), (.int .i64)] x) [(.int .i64)] = ref02_Unlike k x.1 x.2.1 := by kernel_rfl
theorem ref02_Unlike_ok (k : Nat) : FnOk Go.Proofs.Try.prog 158 (ref02_Unlike_sig k) := fn_ok' (Γ := ref02_Unlike_g) (H := ref02_Unlike_h) (fun k => GOk.nil) (by kernel_rfl) (by kernel_rfl) (ref02_Unlike_ev k)
def ref02_Step_sig (k : Nat) : Sig := ⟨[(.int .i64), (.int .u8)], [(.int .i64), .bool], fun x => ref02_Step k x.1 x.2.1⟩
def ref02_Step_g (k : Nat) : FuncId → Option Sig := Ab.look [(158, ref02_Unlike_sig k)]
def ref02_Step_h (f r : Nat) : Option Hint := (Ab.look (α := List (Nat × Hint)) [(154, [(5, ⟨[.tmp 0 (.int .i64), .tmp 6 (.int .i64)], [18, 19, 22, 23, 24, 25, 26, 27, 28, 29, 20, 21]⟩)])] f).bind fun l => Ab.look l r
theorem ref02_Step_ev (k : Nat) (x : (List.foldr Ty.cons .nil [(.int .i64), (.int .u8)]).den) : evTop Go.Proofs.Try.prog ref02_Step_g ref02_Step_h 20 k 154 (argAVs [(.int .i64), (.int .u8)] x) [(.int .i64), .bool] = ref02_Step k x.1 x.2.1 := by kernel_rfl
theorem ref02_Step_ok (k : Nat) : FnOk Go.Proofs.Try.prog 154 (ref02_Step_sig k) := fn_ok' (Γ := ref02_Step_g) (H := ref02_Step_h) (fun k => (.cons (ref02_Unlike_ok k) GOk.nil)) (by kernel_rfl) (by kernel_rfl) (ref02_Step_ev k)
def ref02_Of_sig (k : Nat) : Sig := ⟨[.str], [(.int .i64)], fun x => ref02_Of k x.1⟩
def ref02_Of_g (k : Nat) : FuncId → Option Sig := Ab.look [(154, ref02_Step_sig k)]
def ref02_Of_h (f r : Nat) : Option Hint := (Ab.look (α := List (Nat × Hint)) [(141, [(3, ⟨[.tmp 3 (.int .i64), .tmp 4 (.int .i64)], [7, 8, 9, 10, 14, 15, 16, 17, 18, 13, 19, 20, 5, 6, 21, 11, 12]⟩)])] f).bind fun l => Ab.look l r
theorem ref02_Of_ev (k : Nat) (x : (List.foldr Ty.cons .nil [.str]).den) : evTop Go.Proofs.Try.prog ref02_Of_g ref02_Of_h 20 k 141 (argAVs [.str] x) [(.int .i64)] = ref02_Of k x.1 := by kernel_rfl
theorem ref02_Of_ok (k : Nat) : FnOk Go.Proofs.Try.prog 141 (ref02_Of_sig k) := fn_ok' (Γ := ref02_Of_g) (H := ref02_Of_h) (fun k => (.cons (ref02_Step_ok k) GOk.nil)) (by kernel_rfl) (by kernel_rfl) (ref02_Of_ev k)
def ref03_Get_sig (k : Nat) : Sig := ⟨[.str], [(.int .i64), .str, .str, (.int .i64)], fun x => ref03_Get k x.1⟩
def ref03_Get_g (k : Nat) : FuncId → Option Sig := Ab.look [(125, ref01_GetInt_sig k), (132, ref01_GetText_sig k), (141, ref02_Of_sig k)]
def ref03_Get_h (f r : Nat) : Option Hint := (Ab.look (α := List (Nat × Hint)) [] f).bind fun l => Ab.look l r
theorem ref03_Get_ev (k : Nat) (x : (List.foldr Ty.cons .nil [.str]).den) : evTop Go.Proofs.Try.prog ref03_Get_g ref03_Get_h 20 k 124 (argAVs [.str] x) [(.int .i64), .str, .str, (.int .i64)] = ref03_Get k x.1 := by kernel_rfl
theorem ref03_Get_ok (k : Nat) : FnOk Go.Proofs.Try.prog 124 (ref03_Get_sig k) := fn_ok' (Γ := ref03_Get_g) (H := ref03_Get_h) (fun k => (.cons (ref01_GetInt_ok k) (.cons (ref01_GetText_ok k) (.cons (ref02_Of_ok k) GOk.nil)))) (by kernel_rfl) (by kernel_rfl) (ref03_Get_ev k)
def ref03_GetRow_sig (k : Nat) : Sig := ⟨[.str], [(.int .i64), (.sl .str), .str, (.int .i64)], fun x => ref03_GetRow k x.1⟩
def ref03_GetRow_g (k : Nat) : FuncId → Option Sig := Ab.look [(124, ref03_Get_sig k), (125, ref01_GetInt_sig k), (132, ref01_GetText_sig k)]
def ref03_GetRow_h (f r : Nat) : Option Hint := (Ab.look (α := List (Nat × Hint)) [(106, [(9, ⟨[.tmp 2 (.int .i64), .tmp 3 (.sl .str), .tmp 4 .str, .tmp 5 (.int .i64), .row 13 9 .str, .tmp 11 .str, .tmp 14 (.int .i64)], [44, 45, 46, 50, 51, 49, 52, 53, 54, 15, 16, 17, 55, 56, 57, 58, 59, 60, 61, 47, 48]⟩)])] f).bind fun l => Ab.look l r
theorem ref03_GetRow_ev (k : Nat) (x : (List.foldr Ty.cons .nil [.str]).den) : evTop Go.Proofs.Try.prog ref03_GetRow_g ref03_GetRow_h 20 k 106 (argAVs [.str] x) [(.int .i64), (.sl .str), .str, (.int .i64)] = ref03_GetRow k x.1 := by kernel_rfl
theorem ref03_GetRow_ok (k : Nat) : FnOk Go.Proofs.Try.prog 106 (ref03_GetRow_sig k) := fn_ok' (Γ := ref03_GetRow_g) (H := ref03_GetRow_h) (fun k => (.cons (ref03_Get_ok k) (.cons (ref01_GetInt_ok k) (.cons (ref01_GetText_ok k) GOk.nil)))) (by kernel_rfl) (by kernel_rfl) (ref03_GetRow_ev k)
def ref01_GetInts_sig (k : Nat) : Sig := ⟨[.str, (.int .i64)], [(.sl (.int .i64)), .str, (.int .i64)], fun x => ref01_GetInts k x.1 x.2.1⟩
def ref01_GetInts_g (k : Nat) : FuncId → Option Sig := Ab.look [(125, ref01_GetInt_sig k)]
def ref01_GetInts_h (f r : Nat) : Option Hint := (Ab.look (α := List (Nat × Hint)) [(107, [(5, ⟨[.tmp 4 (.sl (.int .i64)), .tmp 5 .str, .tmp 6 (.int .i64), .row 7 3 (.int .i64), .tmp 0 .str, .tmp 8 (.int .i64)], [18, 19, 20, 24, 25, 23, 26, 27, 28, 9, 10, 11, 29, 30, 31, 32, 33, 34, 35, 36, 21, 22]⟩)])] f).bind fun l => Ab.look l r
theorem ref01_GetInts_ev (k : Nat) (x : (List.foldr Ty.cons .nil [.str, (.int .i64)]).den) : evTop Go.Proofs.Try.prog ref01_GetInts_g ref01_GetInts_h 20 k 107 (argAVs [.str, (.int .i64)] x) [(.sl (.int .i64)), .str, (.int .i64)] = ref01_GetInts k x.1 x.2.1 := by kernel_rfl
theorem ref01_GetInts_ok (k : Nat) : FnOk Go.Proofs.Try.prog 107 (ref01_GetInts_sig k) := fn_ok' (Γ := ref01_GetInts_g) (H := ref01_GetInts_h) (fun k => (.cons (ref01_GetInt_ok k) GOk.nil)) (by kernel_rfl) (by kernel_rfl) (ref01_GetInts_ev k)
def ref01_OwnTexts_sig (k : Nat) : Sig := ⟨[(.sl .str)], [(.sl .str)], fun x => ref01_OwnTexts k x.1⟩
def ref01_OwnTexts_g (k : Nat) : FuncId → Option Sig := Ab.look []
def ref01_OwnTexts_h (f r : Nat) : Option Hint := (Ab.look (α := List (Nat × Hint)) [] f).bind fun l => Ab.look l r
theorem ref01_OwnTexts_ev (k : Nat) (x : (List.foldr Ty.cons .nil [(.sl .str)]).den) : evTop Go.Proofs.Try.prog ref01_OwnTexts_g ref01_OwnTexts_h 20 k 41 (argAVs [(.sl .str)] x) [(.sl .str)] = ref01_OwnTexts k x.1 := by kernel_rfl
theorem ref01_OwnTexts_ok (k : Nat) : FnOk Go.Proofs.Try.prog 41 (ref01_OwnTexts_sig k) := fn_ok' (Γ := ref01_OwnTexts_g) (H := ref01_OwnTexts_h) (fun k => GOk.nil) (by kernel_rfl) (by kernel_rfl) (ref01_OwnTexts_ev k)
def ref20_get_sig (k : Nat) : Sig := ⟨[(.int .i64), (.int .i64), .str], [(.sl (.int .i64)), (.sl .str), .bool], fun x => ref20_get k x.1 x.2.1 x.2.2.1⟩
def ref20_get_g (k : Nat) : FuncId → Option Sig := Ab.look [(106, ref03_GetRow_sig k), (107, ref01_GetInts_sig k), (41, ref01_OwnTexts_sig k)]
def ref20_get_h (f r : Nat) : Option Hint := (Ab.look (α := List (Nat × Hint)) [] f).bind fun l => Ab.look l r
theorem ref20_get_ev (k : Nat) (x : (List.foldr Ty.cons .nil [(.int .i64), (.int .i64), .str]).den) : evTop Go.Proofs.Try.prog ref20_get_g ref20_get_h 20 k 65 (argAVs [(.int .i64), (.int .i64), .str] x) [(.sl (.int .i64)), (.sl .str), .bool] = ref20_get k x.1 x.2.1 x.2.2.1 := by kernel_rfl
theorem ref20_get_ok (k : Nat) : FnOk Go.Proofs.Try.prog 65 (ref20_get_sig k) := fn_ok' (Γ := ref20_get_g) (H := ref20_get_h) (fun k => (.cons (ref03_GetRow_ok k) (.cons (ref01_GetInts_ok k) (.cons (ref01_OwnTexts_ok k) GOk.nil)))) (by kernel_rfl) (by kernel_rfl) (ref20_get_ev k)
def ref19_in_sig (k : Nat) : Sig := ⟨[(.int .i64), (.int .i64), (.int .i64)], [.bool], fun x => ref19_in k x.1 x.2.1 x.2.2.1⟩
def ref19_in_g (k : Nat) : FuncId → Option Sig := Ab.look []
def ref19_in_h (f r : Nat) : Option Hint := (Ab.look (α := List (Nat × Hint)) [] f).bind fun l => Ab.look l r
theorem ref19_in_ev (k : Nat) (x : (List.foldr Ty.cons .nil [(.int .i64), (.int .i64), (.int .i64)]).den) : evTop Go.Proofs.Try.prog ref19_in_g ref19_in_h 20 k 108 (argAVs [(.int .i64), (.int .i64), (.int .i64)] x) [.bool] = ref19_in k x.1 x.2.1 x.2.2.1 := by kernel_rfl
theorem ref19_in_ok (k : Nat) : FnOk Go.Proofs.Try.prog 108 (ref19_in_sig k) := fn_ok' (Γ := ref19_in_g) (H := ref19_in_h) (fun k => GOk.nil) (by kernel_rfl) (by kernel_rfl) (ref19_in_ev k)
def ref04_Is_sig (k : Nat) : Sig := ⟨[(.cons (.int .i64) (.cons (.int .i64) .nil))], [.bool], fun x => ref04_Is k x.1⟩
def ref04_Is_g (k : Nat) : FuncId → Option Sig := Ab.look []
def ref04_Is_h (f r : Nat) : Option Hint := (Ab.look (α := List (Nat × Hint)) [] f).bind fun l => Ab.look l r
theorem ref04_Is_ev (k : Nat) (x : (List.foldr Ty.cons .nil [(.cons (.int .i64) (.cons (.int .i64) .nil))]).den) : evTop Go.Proofs.Try.prog ref04_Is_g ref04_Is_h 20 k 109 (argAVs [(.cons (.int .i64) (.cons (.int .i64) .nil))] x) [.bool] = ref04_Is k x.1 := by kernel_rfl
theorem ref04_Is_ok (k : Nat) : FnOk Go.Proofs.Try.prog 109 (ref04_Is_sig k) := fn_ok' (Γ := ref04_Is_g) (H := ref04_Is_h) (fun k => GOk.nil) (by kernel_rfl) (by kernel_rfl) (ref04_Is_ev k)
def ref19_May_sig (k : Nat) : Sig := ⟨[(.cons (.int .i64) (.cons (.int .i64) (.cons (.int .i64) (.cons (.int .i64) (.cons (.int .i64) (.cons (.int .i64) (.cons (.int .i64) (.cons (.int .i64) .nil))))))))], [.bool], fun x => ref19_May k x.1⟩
def ref19_May_g (k : Nat) : FuncId → Option Sig := Ab.look [(108, ref19_in_sig k), (109, ref04_Is_sig k)]
def ref19_May_h (f r : Nat) : Option Hint := (Ab.look (α := List (Nat × Hint)) [] f).bind fun l => Ab.look l r
theorem ref19_May_ev (k : Nat) (x : (List.foldr Ty.cons .nil [(.cons (.int .i64) (.cons (.int .i64) (.cons (.int .i64) (.cons (.int .i64) (.cons (.int .i64) (.cons (.int .i64) (.cons (.int .i64) (.cons (.int .i64) .nil))))))))]).den) : evTop Go.Proofs.Try.prog ref19_May_g ref19_May_h 20 k 66 (argAVs [(.cons (.int .i64) (.cons (.int .i64) (.cons (.int .i64) (.cons (.int .i64) (.cons (.int .i64) (.cons (.int .i64) (.cons (.int .i64) (.cons (.int .i64) .nil))))))))] x) [.bool] = ref19_May k x.1 := by kernel_rfl
theorem ref19_May_ok (k : Nat) : FnOk Go.Proofs.Try.prog 66 (ref19_May_sig k) := fn_ok' (Γ := ref19_May_g) (H := ref19_May_h) (fun k => (.cons (ref19_in_ok k) (.cons (ref04_Is_ok k) GOk.nil))) (by kernel_rfl) (by kernel_rfl) (ref19_May_ev k)
def ref20_GetCmd_sig (k : Nat) : Sig := ⟨[.str], [(.cons (.int .i64) (.cons (.int .i64) (.cons (.int .i64) (.cons (.int .i64) (.cons (.int .i64) (.cons (.int .i64) (.cons (.int .i64) (.cons (.int .i64) .nil)))))))), (.int .i64)], fun x => ref20_GetCmd k x.1⟩
def ref20_GetCmd_g (k : Nat) : FuncId → Option Sig := Ab.look [(65, ref20_get_sig k), (66, ref19_May_sig k)]
def ref20_GetCmd_h (f r : Nat) : Option Hint := (Ab.look (α := List (Nat × Hint)) [] f).bind fun l => Ab.look l r
theorem ref20_GetCmd_ev (k : Nat) (x : (List.foldr Ty.cons .nil [.str]).den) : evTop Go.Proofs.Try.prog ref20_GetCmd_g ref20_GetCmd_h 20 k 22 (argAVs [.str] x) [(.cons (.int .i64) (.cons (.int .i64) (.cons (.int .i64) (.cons (.int .i64) (.cons (.int .i64) (.cons (.int .i64) (.cons (.int .i64) (.cons (.int .i64) .nil)))))))), (.int .i64)] = ref20_GetCmd k x.1 := by kernel_rfl
theorem ref20_GetCmd_ok (k : Nat) : FnOk Go.Proofs.Try.prog 22 (ref20_GetCmd_sig k) := fn_ok' (Γ := ref20_GetCmd_g) (H := ref20_GetCmd_h) (fun k => (.cons (ref20_get_ok k) (.cons (ref19_May_ok k) GOk.nil))) (by kernel_rfl) (by kernel_rfl) (ref20_GetCmd_ev k)
def ref18_Answer_sig (k : Nat) : Sig := ⟨[(.cons (.int .i64) (.cons (.int .i64) (.cons (.sl .str) .nil)))], [.bool], fun x => ref18_Answer k x.1⟩
def ref18_Answer_g (k : Nat) : FuncId → Option Sig := Ab.look []
def ref18_Answer_h (f r : Nat) : Option Hint := (Ab.look (α := List (Nat × Hint)) [(70, [(4, ⟨[.tmp 2 .bool, .tmp 3 (.int .i64)], [28, 29, 30, 31, 32, 35, 36, 37, 38, 39, 40, 41, 33, 34]⟩)])] f).bind fun l => Ab.look l r
theorem ref18_Answer_ev (k : Nat) (x : (List.foldr Ty.cons .nil [(.cons (.int .i64) (.cons (.int .i64) (.cons (.sl .str) .nil)))]).den) : evTop Go.Proofs.Try.prog ref18_Answer_g ref18_Answer_h 20 k 70 (argAVs [(.cons (.int .i64) (.cons (.int .i64) (.cons (.sl .str) .nil)))] x) [.bool] = ref18_Answer k x.1 := by kernel_rfl
theorem ref18_Answer_ok (k : Nat) : FnOk Go.Proofs.Try.prog 70 (ref18_Answer_sig k) := fn_ok' (Γ := ref18_Answer_g) (H := ref18_Answer_h) (fun k => GOk.nil) (by kernel_rfl) (by kernel_rfl) (ref18_Answer_ev k)
def ref20_GetAnswer_sig (k : Nat) : Sig := ⟨[.str], [(.cons (.int .i64) (.cons (.int .i64) (.cons (.sl .str) .nil))), (.int .i64)], fun x => ref20_GetAnswer k x.1⟩
def ref20_GetAnswer_g (k : Nat) : FuncId → Option Sig := Ab.look [(65, ref20_get_sig k), (70, ref18_Answer_sig k)]
def ref20_GetAnswer_h (f r : Nat) : Option Hint := (Ab.look (α := List (Nat × Hint)) [] f).bind fun l => Ab.look l r
theorem ref20_GetAnswer_ev (k : Nat) (x : (List.foldr Ty.cons .nil [.str]).den) : evTop Go.Proofs.Try.prog ref20_GetAnswer_g ref20_GetAnswer_h 20 k 24 (argAVs [.str] x) [(.cons (.int .i64) (.cons (.int .i64) (.cons (.sl .str) .nil))), (.int .i64)] = ref20_GetAnswer k x.1 := by kernel_rfl
theorem ref20_GetAnswer_ok (k : Nat) : FnOk Go.Proofs.Try.prog 24 (ref20_GetAnswer_sig k) := fn_ok' (Γ := ref20_GetAnswer_g) (H := ref20_GetAnswer_h) (fun k => (.cons (ref20_get_ok k) (.cons (ref18_Answer_ok k) GOk.nil))) (by kernel_rfl) (by kernel_rfl) (ref20_GetAnswer_ev k)
def ref20_in_sig (k : Nat) : Sig := ⟨[(.int .i64), (.int .i64), (.int .i64)], [.bool], fun x => ref20_in k x.1 x.2.1 x.2.2.1⟩
def ref20_in_g (k : Nat) : FuncId → Option Sig := Ab.look []
def ref20_in_h (f r : Nat) : Option Hint := (Ab.look (α := List (Nat × Hint)) [] f).bind fun l => Ab.look l r
theorem ref20_in_ev (k : Nat) (x : (List.foldr Ty.cons .nil [(.int .i64), (.int .i64), (.int .i64)]).den) : evTop Go.Proofs.Try.prog ref20_in_g ref20_in_h 20 k 116 (argAVs [(.int .i64), (.int .i64), (.int .i64)] x) [.bool] = ref20_in k x.1 x.2.1 x.2.2.1 := by kernel_rfl
theorem ref20_in_ok (k : Nat) : FnOk Go.Proofs.Try.prog 116 (ref20_in_sig k) := fn_ok' (Γ := ref20_in_g) (H := ref20_in_h) (fun k => GOk.nil) (by kernel_rfl) (by kernel_rfl) (ref20_in_ev k)
def ref20_rows_sig (k : Nat) : Sig := ⟨[(.sl .str), (.int .i64)], [.bool], fun x => ref20_rows k x.1 x.2.1⟩
def ref20_rows_g (k : Nat) : FuncId → Option Sig := Ab.look []
def ref20_rows_h (f r : Nat) : Option Hint := (Ab.look (α := List (Nat × Hint)) [(117, [(2, ⟨[.tmp 4 .bool, .tmp 5 (.int .i64)], [6, 7, 8, 9, 12, 13, 14, 15, 16, 17, 10, 11]⟩)])] f).bind fun l => Ab.look l r
theorem ref20_rows_ev (k : Nat) (x : (List.foldr Ty.cons .nil [(.sl .str), (.int .i64)]).den) : evTop Go.Proofs.Try.prog ref20_rows_g ref20_rows_h 20 k 117 (argAVs [(.sl .str), (.int .i64)] x) [.bool] = ref20_rows k x.1 x.2.1 := by kernel_rfl
theorem ref20_rows_ok (k : Nat) : FnOk Go.Proofs.Try.prog 117 (ref20_rows_sig k) := fn_ok' (Γ := ref20_rows_g) (H := ref20_rows_h) (fun k => GOk.nil) (by kernel_rfl) (by kernel_rfl) (ref20_rows_ev k)
def ref20_Is_sig (k : Nat) : Sig := ⟨[(.cons (.int .i64) (.cons (.int .i64) (.cons (.int .i64) (.cons (.int .i64) (.cons (.int .i64) (.cons (.int .i64) (.cons (.int .i64) (.cons (.sl .str) .nil))))))))], [.bool], fun x => ref20_Is k x.1⟩
def ref20_Is_g (k : Nat) : FuncId → Option Sig := Ab.look [(116, ref20_in_sig k), (117, ref20_rows_sig k)]
def ref20_Is_h (f r : Nat) : Option Hint := (Ab.look (α := List (Nat × Hint)) [] f).bind fun l => Ab.look l r
theorem ref20_Is_ev (k : Nat) (x : (List.foldr Ty.cons .nil [(.cons (.int .i64) (.cons (.int .i64) (.cons (.int .i64) (.cons (.int .i64) (.cons (.int .i64) (.cons (.int .i64) (.cons (.int .i64) (.cons (.sl .str) .nil))))))))]).den) : evTop Go.Proofs.Try.prog ref20_Is_g ref20_Is_h 20 k 74 (argAVs [(.cons (.int .i64) (.cons (.int .i64) (.cons (.int .i64) (.cons (.int .i64) (.cons (.int .i64) (.cons (.int .i64) (.cons (.int .i64) (.cons (.sl .str) .nil))))))))] x) [.bool] = ref20_Is k x.1 := by kernel_rfl
theorem ref20_Is_ok (k : Nat) : FnOk Go.Proofs.Try.prog 74 (ref20_Is_sig k) := fn_ok' (Γ := ref20_Is_g) (H := ref20_Is_h) (fun k => (.cons (ref20_in_ok k) (.cons (ref20_rows_ok k) GOk.nil))) (by kernel_rfl) (by kernel_rfl) (ref20_Is_ev k)
def ref20_GetMsg_sig (k : Nat) : Sig := ⟨[.str], [(.cons (.int .i64) (.cons (.int .i64) (.cons (.int .i64) (.cons (.int .i64) (.cons (.int .i64) (.cons (.int .i64) (.cons (.int .i64) (.cons (.sl .str) .nil)))))))), (.int .i64)], fun x => ref20_GetMsg k x.1⟩
def ref20_GetMsg_g (k : Nat) : FuncId → Option Sig := Ab.look [(65, ref20_get_sig k), (74, ref20_Is_sig k)]
def ref20_GetMsg_h (f r : Nat) : Option Hint := (Ab.look (α := List (Nat × Hint)) [] f).bind fun l => Ab.look l r
theorem ref20_GetMsg_ev (k : Nat) (x : (List.foldr Ty.cons .nil [.str]).den) : evTop Go.Proofs.Try.prog ref20_GetMsg_g ref20_GetMsg_h 20 k 26 (argAVs [.str] x) [(.cons (.int .i64) (.cons (.int .i64) (.cons (.int .i64) (.cons (.int .i64) (.cons (.int .i64) (.cons (.int .i64) (.cons (.int .i64) (.cons (.sl .str) .nil)))))))), (.int .i64)] = ref20_GetMsg k x.1 := by kernel_rfl
theorem ref20_GetMsg_ok (k : Nat) : FnOk Go.Proofs.Try.prog 26 (ref20_GetMsg_sig k) := fn_ok' (Γ := ref20_GetMsg_g) (H := ref20_GetMsg_h) (fun k => (.cons (ref20_get_ok k) (.cons (ref20_Is_ok k) GOk.nil))) (by kernel_rfl) (by kernel_rfl) (ref20_GetMsg_ev k)
def ref01_Texts_sig (k : Nat) : Sig := ⟨[(.sl .str), (.sl .str)], [.bool], fun x => ref01_Texts k x.1 x.2.1⟩
def ref01_Texts_g (k : Nat) : FuncId → Option Sig := Ab.look []
def ref01_Texts_h (f r : Nat) : Option Hint := (Ab.look (α := List (Nat × Hint)) [(18, [(4, ⟨[.tmp 4 .bool, .tmp 5 (.int .i64)], [11, 12, 13, 14, 17, 18, 19, 20, 21, 22, 23, 24, 25, 15, 16]⟩)])] f).bind fun l => Ab.look l r
theorem ref01_Texts_ev (k : Nat) (x : (List.foldr Ty.cons .nil [(.sl .str), (.sl .str)]).den) : evTop Go.Proofs.Try.prog ref01_Texts_g ref01_Texts_h 20 k 18 (argAVs [(.sl .str), (.sl .str)] x) [.bool] = ref01_Texts k x.1 x.2.1 := by kernel_rfl
theorem ref01_Texts_ok (k : Nat) : FnOk Go.Proofs.Try.prog 18 (ref01_Texts_sig k) := fn_ok' (Γ := ref01_Texts_g) (H := ref01_Texts_h) (fun k => GOk.nil) (by kernel_rfl) (by kernel_rfl) (ref01_Texts_ev k)
def ref20_Same_sig (k : Nat) : Sig := ⟨[(.cons (.int .i64) (.cons (.int .i64) (.cons (.int .i64) (.cons (.int .i64) (.cons (.int .i64) (.cons (.int .i64) (.cons (.int .i64) (.cons (.sl .str) .nil)))))))), (.cons (.int .i64) (.cons (.int .i64) (.cons (.int .i64) (.cons (.int .i64) (.cons (.int .i64) (.cons (.int .i64) (.cons (.int .i64) (.cons (.sl .str) .nil))))))))], [.bool], fun x => ref20_Same k x.1 x.2.1⟩
def ref20_Same_g (k : Nat) : FuncId → Option Sig := Ab.look [(18, ref01_Texts_sig k)]
def ref20_Same_h (f r : Nat) : Option Hint := (Ab.look (α := List (Nat × Hint)) [] f).bind fun l => Ab.look l r
theorem ref20_Same_ev (k : Nat) (x : (List.foldr Ty.cons .nil [(.cons (.int .i64) (.cons (.int .i64) (.cons (.int .i64) (.cons (.int .i64) (.cons (.int .i64) (.cons (.int .i64) (.cons (.int .i64) (.cons (.sl .str) .nil)))))))), (.cons (.int .i64) (.cons (.int .i64) (.cons (.int .i64) (.cons (.int .i64) (.cons (.int .i64) (.cons (.int .i64) (.cons (.int .i64) (.cons (.sl .str) .nil))))))))]).den) : evTop Go.Proofs.Try.prog ref20_Same_g ref20_Same_h 20 k 29 (argAVs [(.cons (.int .i64) (.cons (.int .i64) (.cons (.int .i64) (.cons (.int .i64) (.cons (.int .i64) (.cons (.int .i64) (.cons (.int .i64) (.cons (.sl .str) .nil)))))))), (.cons (.int .i64) (.cons (.int .i64) (.cons (.int .i64) (.cons (.int .i64) (.cons (.int .i64) (.cons (.int .i64) (.cons (.int .i64) (.cons (.sl .str) .nil))))))))] x) [.bool] = ref20_Same k x.1 x.2.1 := by kernel_rfl
theorem ref20_Same_ok (k : Nat) : FnOk Go.Proofs.Try.prog 29 (ref20_Same_sig k) := fn_ok' (Γ := ref20_Same_g) (H := ref20_Same_h) (fun k => (.cons (ref01_Texts_ok k) GOk.nil)) (by kernel_rfl) (by kernel_rfl) (ref20_Same_ev k)
def law20_packed_sig (k : Nat) : Sig := ⟨[], [.bool], fun x => law20_packed k⟩
def law20_packed_g (k : Nat) : FuncId → Option Sig := Ab.look [(32, packet_PutMsg_sig k), (75, frame_Row_sig k), (25, packet_GetMsg_sig k), (30, packet_PutCmd_sig k), (21, packet_GetCmd_sig k), (31, packet_PutAnswer_sig k), (23, packet_GetAnswer_sig k), (29, ref20_Same_sig k), (73, packet_Is_sig k)]
def law20_packed_h (f r : Nat) : Option Hint := (Ab.look (α := List (Nat × Hint)) [] f).bind fun l => Ab.look l r
theorem law20_packed_ev (k : Nat) (x : (List.foldr Ty.cons .nil []).den) : evTop Go.Proofs.Try.prog law20_packed_g law20_packed_h 20 k 27 (argAVs [] x) [.bool] = law20_packed k := by kernel_rfl
theorem law20_packed_ok (k : Nat) : FnOk Go.Proofs.Try.prog 27 (law20_packed_sig k) := fn_ok' (Γ := law20_packed_g) (H := law20_packed_h) (fun k => (.cons (packet_PutMsg_ok k) (.cons (frame_Row_ok k) (.cons (packet_GetMsg_ok k) (.cons (packet_PutCmd_ok k) (.cons (packet_GetCmd_ok k) (.cons (packet_PutAnswer_ok k) (.cons (packet_GetAnswer_ok k) (.cons (ref20_Same_ok k) (.cons (packet_Is_ok k) GOk.nil)))))))))) (by kernel_rfl) (by kernel_rfl) (law20_packed_ev k)
def ref18_SameAnswer_sig (k : Nat) : Sig := ⟨[(.cons (.int .i64) (.cons (.int .i64) (.cons (.sl .str) .nil))), (.cons (.int .i64) (.cons (.int .i64) (.cons (.sl .str) .nil)))], [.bool], fun x => ref18_SameAnswer k x.1 x.2.1⟩
def ref18_SameAnswer_g (k : Nat) : FuncId → Option Sig := Ab.look [(18, ref01_Texts_sig k)]
def ref18_SameAnswer_h (f r : Nat) : Option Hint := (Ab.look (α := List (Nat × Hint)) [] f).bind fun l => Ab.look l r
theorem ref18_SameAnswer_ev (k : Nat) (x : (List.foldr Ty.cons .nil [(.cons (.int .i64) (.cons (.int .i64) (.cons (.sl .str) .nil))), (.cons (.int .i64) (.cons (.int .i64) (.cons (.sl .str) .nil)))]).den) : evTop Go.Proofs.Try.prog ref18_SameAnswer_g ref18_SameAnswer_h 20 k 28 (argAVs [(.cons (.int .i64) (.cons (.int .i64) (.cons (.sl .str) .nil))), (.cons (.int .i64) (.cons (.int .i64) (.cons (.sl .str) .nil)))] x) [.bool] = ref18_SameAnswer k x.1 x.2.1 := by kernel_rfl
theorem ref18_SameAnswer_ok (k : Nat) : FnOk Go.Proofs.Try.prog 28 (ref18_SameAnswer_sig k) := fn_ok' (Γ := ref18_SameAnswer_g) (H := ref18_SameAnswer_h) (fun k => (.cons (ref01_Texts_ok k) GOk.nil)) (by kernel_rfl) (by kernel_rfl) (ref18_SameAnswer_ev k)
def law20_PacketGets_sig (k : Nat) : Sig := ⟨[.str], [.bool], fun x => law20_PacketGets k x.1⟩
def law20_PacketGets_g (k : Nat) : FuncId → Option Sig := Ab.look [(21, packet_GetCmd_sig k), (22, ref20_GetCmd_sig k), (23, packet_GetAnswer_sig k), (24, ref20_GetAnswer_sig k), (25, packet_GetMsg_sig k), (26, ref20_GetMsg_sig k), (27, law20_packed_sig k), (28, ref18_SameAnswer_sig k), (29, ref20_Same_sig k)]
def law20_PacketGets_h (f r : Nat) : Option Hint := (Ab.look (α := List (Nat × Hint)) [] f).bind fun l => Ab.look l r
theorem law20_PacketGets_ev (k : Nat) (x : (List.foldr Ty.cons .nil [.str]).den) : evTop Go.Proofs.Try.prog law20_PacketGets_g law20_PacketGets_h 20 k 5 (argAVs [.str] x) [.bool] = law20_PacketGets k x.1 := by kernel_rfl
theorem law20_PacketGets_ok (k : Nat) : FnOk Go.Proofs.Try.prog 5 (law20_PacketGets_sig k) := fn_ok' (Γ := law20_PacketGets_g) (H := law20_PacketGets_h) (fun k => (.cons (packet_GetCmd_ok k) (.cons (ref20_GetCmd_ok k) (.cons (packet_GetAnswer_ok k) (.cons (ref20_GetAnswer_ok k) (.cons (packet_GetMsg_ok k) (.cons (ref20_GetMsg_ok k) (.cons (law20_packed_ok k) (.cons (ref18_SameAnswer_ok k) (.cons (ref20_Same_ok k) GOk.nil)))))))))) (by kernel_rfl) (by kernel_rfl) (law20_PacketGets_ev k)
def law20_PacketSame_sig (k : Nat) : Sig := ⟨[.str], [.bool], fun x => law20_PacketSame k x.1⟩
def law20_PacketSame_g (k : Nat) : FuncId → Option Sig := Ab.look [(21, packet_GetCmd_sig k), (23, packet_GetAnswer_sig k), (25, packet_GetMsg_sig k), (30, packet_PutCmd_sig k), (31, packet_PutAnswer_sig k), (32, packet_PutMsg_sig k), (27, law20_packed_sig k)]
def law20_PacketSame_h (f r : Nat) : Option Hint := (Ab.look (α := List (Nat × Hint)) [] f).bind fun l => Ab.look l r
theorem law20_PacketSame_ev (k : Nat) (x : (List.foldr Ty.cons .nil [.str]).den) : evTop Go.Proofs.Try.prog law20_PacketSame_g law20_PacketSame_h 20 k 6 (argAVs [.str] x) [.bool] = law20_PacketSame k x.1 := by kernel_rfl
theorem law20_PacketSame_ok (k : Nat) : FnOk Go.Proofs.Try.prog 6 (law20_PacketSame_sig k) := fn_ok' (Γ := law20_PacketSame_g) (H := law20_PacketSame_h) (fun k => (.cons (packet_GetCmd_ok k) (.cons (packet_GetAnswer_ok k) (.cons (packet_GetMsg_ok k) (.cons (packet_PutCmd_ok k) (.cons (packet_PutAnswer_ok k) (.cons (packet_PutMsg_ok k) (.cons (law20_packed_ok k) GOk.nil)))))))) (by kernel_rfl) (by kernel_rfl) (law20_PacketSame_ev k)
def ref01_Short_sig (k : Nat) : Sig := ⟨[(.sl .str)], [.bool], fun x => ref01_Short k x.1⟩
def ref01_Short_g (k : Nat) : FuncId → Option Sig := Ab.look []
def ref01_Short_h (f r : Nat) : Option Hint := (Ab.look (α := List (Nat × Hint)) [(78, [(2, ⟨[.tmp 2 .bool, .tmp 3 (.int .i64)], [4, 5, 6, 7, 10, 11, 12, 13, 14, 15, 8, 9]⟩)])] f).bind fun l => Ab.look l r
theorem ref01_Short_ev (k : Nat) (x : (List.foldr Ty.cons .nil [(.sl .str)]).den) : evTop Go.Proofs.Try.prog ref01_Short_g ref01_Short_h 20 k 78 (argAVs [(.sl .str)] x) [.bool] = ref01_Short k x.1 := by kernel_rfl
theorem ref01_Short_ok (k : Nat) : FnOk Go.Proofs.Try.prog 78 (ref01_Short_sig k) := fn_ok' (Γ := ref01_Short_g) (H := ref01_Short_h) (fun k => GOk.nil) (by kernel_rfl) (by kernel_rfl) (ref01_Short_ev k)
def ref18_BigAnswer_sig (k : Nat) : Sig := ⟨[(.cons (.int .i64) (.cons (.int .i64) (.cons (.sl .str) .nil)))], [.bool], fun x => ref18_BigAnswer k x.1⟩
def ref18_BigAnswer_g (k : Nat) : FuncId → Option Sig := Ab.look [(78, ref01_Short_sig k)]
def ref18_BigAnswer_h (f r : Nat) : Option Hint := (Ab.look (α := List (Nat × Hint)) [] f).bind fun l => Ab.look l r
theorem ref18_BigAnswer_ev (k : Nat) (x : (List.foldr Ty.cons .nil [(.cons (.int .i64) (.cons (.int .i64) (.cons (.sl .str) .nil)))]).den) : evTop Go.Proofs.Try.prog ref18_BigAnswer_g ref18_BigAnswer_h 20 k 33 (argAVs [(.cons (.int .i64) (.cons (.int .i64) (.cons (.sl .str) .nil)))] x) [.bool] = ref18_BigAnswer k x.1 := by kernel_rfl
theorem ref18_BigAnswer_ok (k : Nat) : FnOk Go.Proofs.Try.prog 33 (ref18_BigAnswer_sig k) := fn_ok' (Γ := ref18_BigAnswer_g) (H := ref18_BigAnswer_h) (fun k => (.cons (ref01_Short_ok k) GOk.nil)) (by kernel_rfl) (by kernel_rfl) (ref18_BigAnswer_ev k)
def ref20_Big_sig (k : Nat) : Sig := ⟨[(.cons (.int .i64) (.cons (.int .i64) (.cons (.int .i64) (.cons (.int .i64) (.cons (.int .i64) (.cons (.int .i64) (.cons (.int .i64) (.cons (.sl .str) .nil))))))))], [.bool], fun x => ref20_Big k x.1⟩
def ref20_Big_g (k : Nat) : FuncId → Option Sig := Ab.look [(78, ref01_Short_sig k)]
def ref20_Big_h (f r : Nat) : Option Hint := (Ab.look (α := List (Nat × Hint)) [] f).bind fun l => Ab.look l r
theorem ref20_Big_ev (k : Nat) (x : (List.foldr Ty.cons .nil [(.cons (.int .i64) (.cons (.int .i64) (.cons (.int .i64) (.cons (.int .i64) (.cons (.int .i64) (.cons (.int .i64) (.cons (.int .i64) (.cons (.sl .str) .nil))))))))]).den) : evTop Go.Proofs.Try.prog ref20_Big_g ref20_Big_h 20 k 34 (argAVs [(.cons (.int .i64) (.cons (.int .i64) (.cons (.int .i64) (.cons (.int .i64) (.cons (.int .i64) (.cons (.int .i64) (.cons (.int .i64) (.cons (.sl .str) .nil))))))))] x) [.bool] = ref20_Big k x.1 := by kernel_rfl
theorem ref20_Big_ok (k : Nat) : FnOk Go.Proofs.Try.prog 34 (ref20_Big_sig k) := fn_ok' (Γ := ref20_Big_g) (H := ref20_Big_h) (fun k => (.cons (ref01_Short_ok k) GOk.nil)) (by kernel_rfl) (by kernel_rfl) (ref20_Big_ev k)
def law20_PacketCut_sig (k : Nat) : Sig := ⟨[(.cons (.int .i64) (.cons (.int .i64) (.cons (.int .i64) (.cons (.int .i64) (.cons (.int .i64) (.cons (.int .i64) (.cons (.int .i64) (.cons (.int .i64) .nil)))))))), (.cons (.int .i64) (.cons (.int .i64) (.cons (.sl .str) .nil))), (.cons (.int .i64) (.cons (.int .i64) (.cons (.int .i64) (.cons (.int .i64) (.cons (.int .i64) (.cons (.int .i64) (.cons (.int .i64) (.cons (.sl .str) .nil)))))))), (.int .i64), (.int .u8)], [.bool], fun x => law20_PacketCut k x.1 x.2.1 x.2.2.1 x.2.2.2.1 x.2.2.2.2.1⟩
def law20_PacketCut_g (k : Nat) : FuncId → Option Sig := Ab.look [(33, ref18_BigAnswer_sig k), (34, ref20_Big_sig k), (30, packet_PutCmd_sig k), (31, packet_PutAnswer_sig k), (32, packet_PutMsg_sig k), (21, packet_GetCmd_sig k), (23, packet_GetAnswer_sig k), (27, law20_packed_sig k), (25, packet_GetMsg_sig k)]
def law20_PacketCut_h (f r : Nat) : Option Hint := (Ab.look (α := List (Nat × Hint)) [] f).bind fun l => Ab.look l r
theorem law20_PacketCut_ev (k : Nat) (x : (List.foldr Ty.cons .nil [(.cons (.int .i64) (.cons (.int .i64) (.cons (.int .i64) (.cons (.int .i64) (.cons (.int .i64) (.cons (.int .i64) (.cons (.int .i64) (.cons (.int .i64) .nil)))))))), (.cons (.int .i64) (.cons (.int .i64) (.cons (.sl .str) .nil))), (.cons (.int .i64) (.cons (.int .i64) (.cons (.int .i64) (.cons (.int .i64) (.cons (.int .i64) (.cons (.int .i64) (.cons (.int .i64) (.cons (.sl .str) .nil)))))))), (.int .i64), (.int .u8)]).den) : evTop Go.Proofs.Try.prog law20_PacketCut_g law20_PacketCut_h 20 k 7 (argAVs [(.cons (.int .i64) (.cons (.int .i64) (.cons (.int .i64) (.cons (.int .i64) (.cons (.int .i64) (.cons (.int .i64) (.cons (.int .i64) (.cons (.int .i64) .nil)))))))), (.cons (.int .i64) (.cons (.int .i64) (.cons (.sl .str) .nil))), (.cons (.int .i64) (.cons (.int .i64) (.cons (.int .i64) (.cons (.int .i64) (.cons (.int .i64) (.cons (.int .i64) (.cons (.int .i64) (.cons (.sl .str) .nil)))))))), (.int .i64), (.int .u8)] x) [.bool] = law20_PacketCut k x.1 x.2.1 x.2.2.1 x.2.2.2.1 x.2.2.2.2.1 := by kernel_rfl
theorem law20_PacketCut_ok (k : Nat) : FnOk Go.Proofs.Try.prog 7 (law20_PacketCut_sig k) := fn_ok' (Γ := law20_PacketCut_g) (H := law20_PacketCut_h) (fun k => (.cons (ref18_BigAnswer_ok k) (.cons (ref20_Big_ok k) (.cons (packet_PutCmd_ok k) (.cons (packet_PutAnswer_ok k) (.cons (packet_PutMsg_ok k) (.cons (packet_GetCmd_ok k) (.cons (packet_GetAnswer_ok k) (.cons (law20_packed_ok k) (.cons (packet_GetMsg_ok k) GOk.nil)))))))))) (by kernel_rfl) (by kernel_rfl) (law20_PacketCut_ev k)
end Go.Proofs.Ytoeikeabbdnkbaa.A
