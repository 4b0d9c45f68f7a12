/- PRINTED BY resid.py (ours): each function's calls come to what is printed of it. -/
import Derived.Test.YtaadndikbecdbaaFnFrame
import Derived.Test.YtaadndikbecdbaaAbG
import Derived.Test.YtaadndikbecdbaaProg
import Derived.Test.YtaadndikbecdbaaAHSum
import Derived.Test.YtaadndikbecdbaaAHRow
import Derived.Test.YtaadndikbecdbaaEvFrameP
namespace Go.Proofs.Ytaadndikbecdbaa.A
open Go Go.Proofs.Ytaadndikbecdbaa.Ab
set_option linter.unusedVariables false
set_option maxRecDepth 100000
def ref01_Short_sig (k : Nat) : Sig := ⟨[(.sl .str)], [.bool], fun x => ref01_Short k x.1⟩
def ref01_Short_g (k : Nat) : FuncId → Option Sig := Ab.look []
def ref01_Short_h (f r : Nat) : Option Hint := (Ab.look (α := List (Nat × Hint)) [(31, [(2, ⟨[.tmp 2 .bool, .tmp 3 (.int .i64)], [4, 5, 6, 7, 10, 11, 12, 13, 14, 15, 8, 9]⟩)])] f).bind fun l => Ab.look l r
theorem ref01_Short_ev (k : Nat) (x : (List.foldr Ty.cons .nil [(.sl .str)]).den) : evTop Go.Proofs.Try.prog ref01_Short_g ref01_Short_h 20 k 31 (argAVs [(.sl .str)] x) [.bool] = ref01_Short k x.1 := by kernel_rfl
theorem ref01_Short_ok (k : Nat) : FnOk Go.Proofs.Try.prog 31 (ref01_Short_sig k) := fn_ok' (Γ := ref01_Short_g) (H := ref01_Short_h) (fun k => GOk.nil) (by kernel_rfl) (by kernel_rfl) (ref01_Short_ev k)
def wire_GetInt_sig (k : Nat) : Sig := ⟨[.str], [(.int .i64), .str, (.int .i64)], fun x => wire_GetInt k x.1⟩
def wire_GetInt_g (k : Nat) : FuncId → Option Sig := Ab.look []
def wire_GetInt_h (f r : Nat) : Option Hint := (Ab.look (α := List (Nat × Hint)) [(61, [(3, ⟨[.tmp 5 (.int .i64), .tmp 11 (.int .i64)], [12, 13, 6, 14, 15, 16, 17, 18, 19]⟩), (14, ⟨[.tmp 2 (.int .i64), .tmp 3 .str, .tmp 4 (.int .i64), .tmp 7 (.int .i64), .tmp 8 (.int .i64)], [28, 29, 32, 33, 34, 35, 36, 37, 38, 39, 40, 41, 42, 43, 44, 45, 46, 47, 48, 49, 50, 51, 52, 53, 54, 30, 31]⟩)])] f).bind fun l => Ab.look l r
theorem wire_GetInt_ev (k : Nat) (x : (List.foldr Ty.cons .nil [.str]).den) : evTop Go.Proofs.Try.prog wire_GetInt_g wire_GetInt_h 20 k 61 (argAVs [.str] x) [(.int .i64), .str, (.int .i64)] = wire_GetInt k x.1 := by kernel_rfl
theorem wire_GetInt_ok (k : Nat) : FnOk Go.Proofs.Try.prog 61 (wire_GetInt_sig k) := fn_ok' (Γ := wire_GetInt_g) (H := wire_GetInt_h) (fun k => GOk.nil) (by kernel_rfl) (by kernel_rfl) (wire_GetInt_ev k)
def wire_GetText_sig (k : Nat) : Sig := ⟨[.str], [.str, .str, (.int .i64)], fun x => wire_GetText k x.1⟩
def wire_GetText_g (k : Nat) : FuncId → Option Sig := Ab.look [(61, wire_GetInt_sig k)]
def wire_GetText_h (f r : Nat) : Option Hint := (Ab.look (α := List (Nat × Hint)) [] f).bind fun l => Ab.look l r
theorem wire_GetText_ev (k : Nat) (x : (List.foldr Ty.cons .nil [.str]).den) : evTop Go.Proofs.Try.prog wire_GetText_g wire_GetText_h 20 k 63 (argAVs [.str] x) [.str, .str, (.int .i64)] = wire_GetText k x.1 := by kernel_rfl
theorem wire_GetText_ok (k : Nat) : FnOk Go.Proofs.Try.prog 63 (wire_GetText_sig k) := fn_ok' (Γ := wire_GetText_g) (H := wire_GetText_h) (fun k => (.cons (wire_GetInt_ok k) GOk.nil)) (by kernel_rfl) (by kernel_rfl) (wire_GetText_ev k)
def frame_Get_sig (k : Nat) : Sig := ⟨[.str], [(.int .i64), .str, .str, (.int .i64)], fun x => frame_Get k x.1⟩
def frame_Get_g (k : Nat) : FuncId → Option Sig := Ab.look [(50, sum_Of_sig k), (61, wire_GetInt_sig k), (63, wire_GetText_sig k)]
def frame_Get_h (f r : Nat) : Option Hint := (Ab.look (α := List (Nat × Hint)) [] f).bind fun l => Ab.look l r
theorem frame_Get_ev (k : Nat) (x : (List.foldr Ty.cons .nil [.str]).den) : evTop Go.Proofs.Try.prog frame_Get_g frame_Get_h 20 k 33 (argAVs [.str] x) [(.int .i64), .str, .str, (.int .i64)] = frame_Get k x.1 := by kernel_rfl
theorem frame_Get_ok (k : Nat) : FnOk Go.Proofs.Try.prog 33 (frame_Get_sig k) := fn_ok' (Γ := frame_Get_g) (H := frame_Get_h) (fun k => (.cons (sum_Of_ok k) (.cons (wire_GetInt_ok k) (.cons (wire_GetText_ok k) GOk.nil)))) (by kernel_rfl) (by kernel_rfl) (frame_Get_ev k)
def frame_GetRow_sig (k : Nat) : Sig := ⟨[.str], [(.int .i64), (.sl .str), .str, (.int .i64)], fun x => frame_GetRow k x.1⟩
def frame_GetRow_g (k : Nat) : FuncId → Option Sig := Ab.look [(33, frame_Get_sig k), (61, wire_GetInt_sig k), (63, wire_GetText_sig k)]
def frame_GetRow_h (f r : Nat) : Option Hint := (Ab.look (α := List (Nat × Hint)) [(35, [(10, ⟨[.row 14 9 .str, .tmp 42 (.int .i64), .box 1000011 (.int .i64), .box 2000011 .str], [43, 44, 45, 46, 47, 48, 49]⟩)])] f).bind fun l => Ab.look l r
theorem frame_GetRow_ev (k : Nat) (x : (List.foldr Ty.cons .nil [.str]).den) : evTop Go.Proofs.Try.prog frame_GetRow_g frame_GetRow_h 20 k 35 (argAVs [.str] x) [(.int .i64), (.sl .str), .str, (.int .i64)] = frame_GetRow k x.1 := by kernel_rfl
theorem frame_GetRow_ok (k : Nat) : FnOk Go.Proofs.Try.prog 35 (frame_GetRow_sig k) := fn_ok' (Γ := frame_GetRow_g) (H := frame_GetRow_h) (fun k => (.cons (frame_Get_ok k) (.cons (wire_GetInt_ok k) (.cons (wire_GetText_ok k) GOk.nil)))) (by kernel_rfl) (by kernel_rfl) (frame_GetRow_ev k)
def ref01_Texts_sig (k : Nat) : Sig := ⟨[(.sl .str), (.sl .str)], [.bool], fun x => ref01_Texts k x.1 x.2.1⟩
def ref01_Texts_g (k : Nat) : FuncId → Option Sig := Ab.look []
def ref01_Texts_h (f r : Nat) : Option Hint := (Ab.look (α := List (Nat × Hint)) [(30, [(4, ⟨[.tmp 4 .bool, .tmp 5 (.int .i64)], [11, 12, 13, 14, 17, 18, 19, 20, 21, 22, 23, 24, 25, 15, 16]⟩)])] f).bind fun l => Ab.look l r
theorem ref01_Texts_ev (k : Nat) (x : (List.foldr Ty.cons .nil [(.sl .str), (.sl .str)]).den) : evTop Go.Proofs.Try.prog ref01_Texts_g ref01_Texts_h 20 k 30 (argAVs [(.sl .str), (.sl .str)] x) [.bool] = ref01_Texts k x.1 x.2.1 := by kernel_rfl
theorem ref01_Texts_ok (k : Nat) : FnOk Go.Proofs.Try.prog 30 (ref01_Texts_sig k) := fn_ok' (Γ := ref01_Texts_g) (H := ref01_Texts_h) (fun k => GOk.nil) (by kernel_rfl) (by kernel_rfl) (ref01_Texts_ev k)
def law03_framed_sig (k : Nat) : Sig := ⟨[], [.bool], fun x => law03_framed k⟩
def law03_framed_g (k : Nat) : FuncId → Option Sig := Ab.look [(32, frame_Put_sig k), (33, frame_Get_sig k), (34, frame_Row_sig k), (35, frame_GetRow_sig k), (30, ref01_Texts_sig k)]
def law03_framed_h (f r : Nat) : Option Hint := (Ab.look (α := List (Nat × Hint)) [] f).bind fun l => Ab.look l r
theorem law03_framed_ev (k : Nat) (x : (List.foldr Ty.cons .nil []).den) : evTop Go.Proofs.Try.prog law03_framed_g law03_framed_h 20 k 36 (argAVs [] x) [.bool] = law03_framed k := by kernel_rfl
theorem law03_framed_ok (k : Nat) : FnOk Go.Proofs.Try.prog 36 (law03_framed_sig k) := fn_ok' (Γ := law03_framed_g) (H := law03_framed_h) (fun k => (.cons (frame_Put_ok k) (.cons (frame_Get_ok k) (.cons (frame_Row_ok k) (.cons (frame_GetRow_ok k) (.cons (ref01_Texts_ok k) GOk.nil)))))) (by kernel_rfl) (by kernel_rfl) (law03_framed_ev k)
def law03_FrameBack_sig (k : Nat) : Sig := ⟨[(.int .i64), .str, (.sl .str), .str], [.bool], fun x => law03_FrameBack k x.1 x.2.1 x.2.2.1 x.2.2.2.1⟩
def law03_FrameBack_g (k : Nat) : FuncId → Option Sig := Ab.look [(31, ref01_Short_sig k), (32, frame_Put_sig k), (33, frame_Get_sig k), (34, frame_Row_sig k), (35, frame_GetRow_sig k), (36, law03_framed_sig k), (30, ref01_Texts_sig k)]
def law03_FrameBack_h (f r : Nat) : Option Hint := (Ab.look (α := List (Nat × Hint)) [] f).bind fun l => Ab.look l r
theorem law03_FrameBack_ev (k : Nat) (x : (List.foldr Ty.cons .nil [(.int .i64), .str, (.sl .str), .str]).den) : evTop Go.Proofs.Try.prog law03_FrameBack_g law03_FrameBack_h 20 k 8 (argAVs [(.int .i64), .str, (.sl .str), .str] x) [.bool] = law03_FrameBack k x.1 x.2.1 x.2.2.1 x.2.2.2.1 := by kernel_rfl
theorem law03_FrameBack_ok (k : Nat) : FnOk Go.Proofs.Try.prog 8 (law03_FrameBack_sig k) := fn_ok' (Γ := law03_FrameBack_g) (H := law03_FrameBack_h) (fun k => (.cons (ref01_Short_ok k) (.cons (frame_Put_ok k) (.cons (frame_Get_ok k) (.cons (frame_Row_ok k) (.cons (frame_GetRow_ok k) (.cons (law03_framed_ok k) (.cons (ref01_Texts_ok k) GOk.nil)))))))) (by kernel_rfl) (by kernel_rfl) (law03_FrameBack_ev k)
def law03_FrameSame_sig (k : Nat) : Sig := ⟨[.str], [.bool], fun x => law03_FrameSame k x.1⟩
def law03_FrameSame_g (k : Nat) : FuncId → Option Sig := Ab.look [(33, frame_Get_sig k), (32, frame_Put_sig k), (35, frame_GetRow_sig k), (34, frame_Row_sig k), (36, law03_framed_sig k)]
def law03_FrameSame_h (f r : Nat) : Option Hint := (Ab.look (α := List (Nat × Hint)) [] f).bind fun l => Ab.look l r
theorem law03_FrameSame_ev (k : Nat) (x : (List.foldr Ty.cons .nil [.str]).den) : evTop Go.Proofs.Try.prog law03_FrameSame_g law03_FrameSame_h 20 k 9 (argAVs [.str] x) [.bool] = law03_FrameSame k x.1 := by kernel_rfl
theorem law03_FrameSame_ok (k : Nat) : FnOk Go.Proofs.Try.prog 9 (law03_FrameSame_sig k) := fn_ok' (Γ := law03_FrameSame_g) (H := law03_FrameSame_h) (fun k => (.cons (frame_Get_ok k) (.cons (frame_Put_ok k) (.cons (frame_GetRow_ok k) (.cons (frame_Row_ok k) (.cons (law03_framed_ok k) GOk.nil)))))) (by kernel_rfl) (by kernel_rfl) (law03_FrameSame_ev k)
def ref01_Int_sig (k : Nat) : Sig := ⟨[(.int .i64)], [.str, (.int .i64)], fun x => ref01_Int k x.1⟩
def ref01_Int_g (k : Nat) : FuncId → Option Sig := Ab.look []
def ref01_Int_h (f r : Nat) : Option Hint := (Ab.look (α := List (Nat × Hint)) [(66, [(8, ⟨[.row 5 5 (.int .u8), .tmp 0 (.int .i64)], [16, 17, 18, 19, 20, 21, 22, 23, 24, 25]⟩)])] f).bind fun l => Ab.look l r
theorem ref01_Int_ev (k : Nat) (x : (List.foldr Ty.cons .nil [(.int .i64)]).den) : evTop Go.Proofs.Try.prog ref01_Int_g ref01_Int_h 20 k 66 (argAVs [(.int .i64)] x) [.str, (.int .i64)] = ref01_Int k x.1 := by kernel_rfl
theorem ref01_Int_ok (k : Nat) : FnOk Go.Proofs.Try.prog 66 (ref01_Int_sig k) := fn_ok' (Γ := ref01_Int_g) (H := ref01_Int_h) (fun k => GOk.nil) (by kernel_rfl) (by kernel_rfl) (ref01_Int_ev k)
def ref01_GetInt_sig (k : Nat) : Sig := ⟨[.str], [(.int .i64), .str, (.int .i64)], fun x => ref01_GetInt k x.1⟩
def ref01_GetInt_g (k : Nat) : FuncId → Option Sig := Ab.look [(66, ref01_Int_sig k)]
def ref01_GetInt_h (f r : Nat) : Option Hint := (Ab.look (α := List (Nat × Hint)) [(53, [(3, ⟨[.tmp 6 .bool, .tmp 5 (.int .i64)], [11, 12, 13, 14, 15, 16, 17, 18, 19, 20, 21, 22, 23, 24, 25, 26, 27, 28, 29]⟩), (12, ⟨[.tmp 7 (.int .i64), .tmp 8 (.int .i64)], [41, 42, 45, 46, 47, 48, 49, 50, 51, 43, 44]⟩)])] f).bind fun l => Ab.look l r
theorem ref01_GetInt_ev (k : Nat) (x : (List.foldr Ty.cons .nil [.str]).den) : evTop Go.Proofs.Try.prog ref01_GetInt_g ref01_GetInt_h 20 k 53 (argAVs [.str] x) [(.int .i64), .str, (.int .i64)] = ref01_GetInt k x.1 := by kernel_rfl
theorem ref01_GetInt_ok (k : Nat) : FnOk Go.Proofs.Try.prog 53 (ref01_GetInt_sig k) := fn_ok' (Γ := ref01_GetInt_g) (H := ref01_GetInt_h) (fun k => (.cons (ref01_Int_ok k) GOk.nil)) (by kernel_rfl) (by kernel_rfl) (ref01_GetInt_ev k)
def ref01_GetText_sig (k : Nat) : Sig := ⟨[.str], [.str, .str, (.int .i64)], fun x => ref01_GetText k x.1⟩
def ref01_GetText_g (k : Nat) : FuncId → Option Sig := Ab.look [(53, ref01_GetInt_sig k)]
def ref01_GetText_h (f r : Nat) : Option Hint := (Ab.look (α := List (Nat × Hint)) [] f).bind fun l => Ab.look l r
theorem ref01_GetText_ev (k : Nat) (x : (List.foldr Ty.cons .nil [.str]).den) : evTop Go.Proofs.Try.prog ref01_GetText_g ref01_GetText_h 20 k 54 (argAVs [.str] x) [.str, .str, (.int .i64)] = ref01_GetText k x.1 := by kernel_rfl
theorem ref01_GetText_ok (k : Nat) : FnOk Go.Proofs.Try.prog 54 (ref01_GetText_sig k) := fn_ok' (Γ := ref01_GetText_g) (H := ref01_GetText_h) (fun k => (.cons (ref01_GetInt_ok k) GOk.nil)) (by kernel_rfl) (by kernel_rfl) (ref01_GetText_ev k)
def ref02_Unlike_sig (k : Nat) : Sig := ⟨[(.int .i64), (.int .i64)], [(.int .i64)], fun x => ref02_Unlike k x.1 x.2.1⟩
def ref02_Unlike_g (k : Nat) : FuncId → Option Sig := Ab.look []
def ref02_Unlike_h (f r : Nat) : Option Hint := (Ab.look (α := List (Nat × Hint)) [(73, [(4, ⟨[.tmp 5 (.int .i64), .tmp 6 (.int .i64), .tmp 7 (.int .i64)], [8, 9, 12, 13, 14, 15, 16, 17, 18, 19, 20, 21, 22, 23, 24, 25, 10, 11]⟩)])] f).bind fun l => Ab.look l r
theorem ref02_Unlike_ev (k : Nat) (x : (List.foldr Ty.cons .nil [(.int .i64), (.int .i64)]).den) : evTop Go.Proofs.Try.prog ref02_Unlike_g ref02_Unlike_h 20 k 73 (argAVs [(.int .i64), (.int .i64)] x) [(.int .i64)] = ref02_Unlike k x.1 x.2.1 := by kernel_rfl
theorem ref02_Unlike_ok (k : Nat) : FnOk Go.Proofs.Try.prog 73 (ref02_Unlike_sig k) := fn_ok' (Γ := ref02_Unlike_g) (H := ref02_Unlike_h) (fun k => GOk.nil) (by kernel_rfl) (by kernel_rfl) (ref02_Unlike_ev k)
def ref02_Step_sig (k : Nat) : Sig := ⟨[(.int .i64), (.int .u8)], [(.int .i64), .bool], fun x => ref02_Step k x.1 x.2.1⟩
def ref02_Step_g (k : Nat) : FuncId → Option Sig := Ab.look [(73, ref02_Unlike_sig k)]
def ref02_Step_h (f r : Nat) : Option Hint := (Ab.look (α := List (Nat × Hint)) [(67, [(5, ⟨[.tmp 0 (.int .i64), .tmp 6 (.int .i64)], [18, 19, 22, 23, 24, 25, 26, 27, 28, 29, 20, 21]⟩)])] f).bind fun l => Ab.look l r
theorem ref02_Step_ev (k : Nat) (x : (List.foldr Ty.cons .nil [(.int .i64), (.int .u8)]).den) : evTop Go.Proofs.Try.prog ref02_Step_g ref02_Step_h 20 k 67 (argAVs [(.int .i64), (.int .u8)] x) [(.int .i64), .bool] = ref02_Step k x.1 x.2.1 := by kernel_rfl
theorem ref02_Step_ok (k : Nat) : FnOk Go.Proofs.Try.prog 67 (ref02_Step_sig k) := fn_ok' (Γ := ref02_Step_g) (H := ref02_Step_h) (fun k => (.cons (ref02_Unlike_ok k) GOk.nil)) (by kernel_rfl) (by kernel_rfl) (ref02_Step_ev k)
def ref02_Of_sig (k : Nat) : Sig := ⟨[.str], [(.int .i64)], fun x => ref02_Of k x.1⟩
def ref02_Of_g (k : Nat) : FuncId → Option Sig := Ab.look [(67, ref02_Step_sig k)]
def ref02_Of_h (f r : Nat) : Option Hint := (Ab.look (α := List (Nat × Hint)) [(55, [(3, ⟨[.tmp 3 (.int .i64), .tmp 4 (.int .i64)], [7, 8, 9, 10, 14, 15, 16, 17, 18, 13, 19, 20, 5, 6, 21, 11, 12]⟩)])] f).bind fun l => Ab.look l r
theorem ref02_Of_ev (k : Nat) (x : (List.foldr Ty.cons .nil [.str]).den) : evTop Go.Proofs.Try.prog ref02_Of_g ref02_Of_h 20 k 55 (argAVs [.str] x) [(.int .i64)] = ref02_Of k x.1 := by kernel_rfl
theorem ref02_Of_ok (k : Nat) : FnOk Go.Proofs.Try.prog 55 (ref02_Of_sig k) := fn_ok' (Γ := ref02_Of_g) (H := ref02_Of_h) (fun k => (.cons (ref02_Step_ok k) GOk.nil)) (by kernel_rfl) (by kernel_rfl) (ref02_Of_ev k)
def ref03_Get_sig (k : Nat) : Sig := ⟨[.str], [(.int .i64), .str, .str, (.int .i64)], fun x => ref03_Get k x.1⟩
def ref03_Get_g (k : Nat) : FuncId → Option Sig := Ab.look [(53, ref01_GetInt_sig k), (54, ref01_GetText_sig k), (55, ref02_Of_sig k)]
def ref03_Get_h (f r : Nat) : Option Hint := (Ab.look (α := List (Nat × Hint)) [] f).bind fun l => Ab.look l r
theorem ref03_Get_ev (k : Nat) (x : (List.foldr Ty.cons .nil [.str]).den) : evTop Go.Proofs.Try.prog ref03_Get_g ref03_Get_h 20 k 37 (argAVs [.str] x) [(.int .i64), .str, .str, (.int .i64)] = ref03_Get k x.1 := by kernel_rfl
theorem ref03_Get_ok (k : Nat) : FnOk Go.Proofs.Try.prog 37 (ref03_Get_sig k) := fn_ok' (Γ := ref03_Get_g) (H := ref03_Get_h) (fun k => (.cons (ref01_GetInt_ok k) (.cons (ref01_GetText_ok k) (.cons (ref02_Of_ok k) GOk.nil)))) (by kernel_rfl) (by kernel_rfl) (ref03_Get_ev k)
def ref03_GetRow_sig (k : Nat) : Sig := ⟨[.str], [(.int .i64), (.sl .str), .str, (.int .i64)], fun x => ref03_GetRow k x.1⟩
def ref03_GetRow_g (k : Nat) : FuncId → Option Sig := Ab.look [(37, ref03_Get_sig k), (53, ref01_GetInt_sig k), (54, ref01_GetText_sig k)]
def ref03_GetRow_h (f r : Nat) : Option Hint := (Ab.look (α := List (Nat × Hint)) [(38, [(9, ⟨[.tmp 2 (.int .i64), .tmp 3 (.sl .str), .tmp 4 .str, .tmp 5 (.int .i64), .row 13 9 .str, .tmp 11 .str, .tmp 14 (.int .i64)], [44, 45, 46, 50, 51, 49, 52, 53, 54, 15, 16, 17, 55, 56, 57, 58, 59, 60, 61, 47, 48]⟩)])] f).bind fun l => Ab.look l r
theorem ref03_GetRow_ev (k : Nat) (x : (List.foldr Ty.cons .nil [.str]).den) : evTop Go.Proofs.Try.prog ref03_GetRow_g ref03_GetRow_h 20 k 38 (argAVs [.str] x) [(.int .i64), (.sl .str), .str, (.int .i64)] = ref03_GetRow k x.1 := by kernel_rfl
theorem ref03_GetRow_ok (k : Nat) : FnOk Go.Proofs.Try.prog 38 (ref03_GetRow_sig k) := fn_ok' (Γ := ref03_GetRow_g) (H := ref03_GetRow_h) (fun k => (.cons (ref03_Get_ok k) (.cons (ref01_GetInt_ok k) (.cons (ref01_GetText_ok k) GOk.nil)))) (by kernel_rfl) (by kernel_rfl) (ref03_GetRow_ev k)
def frame_All_sig (k : Nat) : Sig := ⟨[.str], [(.sl .str), (.int .i64), (.int .i64)], fun x => frame_All k x.1⟩
def frame_All_g (k : Nat) : FuncId → Option Sig := Ab.look [(33, frame_Get_sig k)]
def frame_All_h (f r : Nat) : Option Hint := (Ab.look (α := List (Nat × Hint)) [(39, [(3, ⟨[.tmp 2 (.sl .str), .tmp 3 (.int .i64), .tmp 4 (.int .i64), .row 5 9 .str, .tmp 6 .str], [12, 13, 15, 16, 14, 17, 18, 19, 20, 7, 8, 9, 10, 21, 22, 23, 24, 25, 26, 27, 28, 29, 30, 31, 32, 33, 34]⟩)])] f).bind fun l => Ab.look l r
theorem frame_All_ev (k : Nat) (x : (List.foldr Ty.cons .nil [.str]).den) : evTop Go.Proofs.Try.prog frame_All_g frame_All_h 20 k 39 (argAVs [.str] x) [(.sl .str), (.int .i64), (.int .i64)] = frame_All k x.1 := by kernel_rfl
theorem frame_All_ok (k : Nat) : FnOk Go.Proofs.Try.prog 39 (frame_All_sig k) := fn_ok' (Γ := frame_All_g) (H := frame_All_h) (fun k => (.cons (frame_Get_ok k) GOk.nil)) (by kernel_rfl) (by kernel_rfl) (frame_All_ev k)
def ref03_All_sig (k : Nat) : Sig := ⟨[.str], [(.sl .str), (.int .i64), (.int .i64)], fun x => ref03_All k x.1⟩
def ref03_All_g (k : Nat) : FuncId → Option Sig := Ab.look [(37, ref03_Get_sig k)]
def ref03_All_h (f r : Nat) : Option Hint := (Ab.look (α := List (Nat × Hint)) [(40, [(3, ⟨[.tmp 2 (.sl .str), .tmp 3 (.int .i64), .tmp 4 (.int .i64), .row 5 9 .str, .tmp 6 .str], [12, 13, 15, 16, 14, 17, 18, 19, 20, 7, 8, 9, 10, 21, 22, 23, 24, 25, 26, 27, 28, 29, 30, 31, 32, 33, 34]⟩)])] f).bind fun l => Ab.look l r
theorem ref03_All_ev (k : Nat) (x : (List.foldr Ty.cons .nil [.str]).den) : evTop Go.Proofs.Try.prog ref03_All_g ref03_All_h 20 k 40 (argAVs [.str] x) [(.sl .str), (.int .i64), (.int .i64)] = ref03_All k x.1 := by kernel_rfl
theorem ref03_All_ok (k : Nat) : FnOk Go.Proofs.Try.prog 40 (ref03_All_sig k) := fn_ok' (Γ := ref03_All_g) (H := ref03_All_h) (fun k => (.cons (ref03_Get_ok k) GOk.nil)) (by kernel_rfl) (by kernel_rfl) (ref03_All_ev k)
def law03_FrameGets_sig (k : Nat) : Sig := ⟨[.str], [.bool], fun x => law03_FrameGets k x.1⟩
def law03_FrameGets_g (k : Nat) : FuncId → Option Sig := Ab.look [(33, frame_Get_sig k), (37, ref03_Get_sig k), (35, frame_GetRow_sig k), (38, ref03_GetRow_sig k), (39, frame_All_sig k), (40, ref03_All_sig k), (36, law03_framed_sig k), (30, ref01_Texts_sig k)]
def law03_FrameGets_h (f r : Nat) : Option Hint := (Ab.look (α := List (Nat × Hint)) [] f).bind fun l => Ab.look l r
theorem law03_FrameGets_ev (k : Nat) (x : (List.foldr Ty.cons .nil [.str]).den) : evTop Go.Proofs.Try.prog law03_FrameGets_g law03_FrameGets_h 20 k 10 (argAVs [.str] x) [.bool] = law03_FrameGets k x.1 := by kernel_rfl
theorem law03_FrameGets_ok (k : Nat) : FnOk Go.Proofs.Try.prog 10 (law03_FrameGets_sig k) := fn_ok' (Γ := law03_FrameGets_g) (H := law03_FrameGets_h) (fun k => (.cons (frame_Get_ok k) (.cons (ref03_Get_ok k) (.cons (frame_GetRow_ok k) (.cons (ref03_GetRow_ok k) (.cons (frame_All_ok k) (.cons (ref03_All_ok k) (.cons (law03_framed_ok k) (.cons (ref01_Texts_ok k) GOk.nil))))))))) (by kernel_rfl) (by kernel_rfl) (law03_FrameGets_ev k)
def law03_FrameCut_sig (k : Nat) : Sig := ⟨[(.sl .str), (.int .i64), (.int .i64)], [.bool], fun x => law03_FrameCut k x.1 x.2.1 x.2.2.1⟩
def law03_FrameCut_g (k : Nat) : FuncId → Option Sig := Ab.look [(31, ref01_Short_sig k), (32, frame_Put_sig k), (39, frame_All_sig k), (30, ref01_Texts_sig k), (36, law03_framed_sig k)]
def law03_FrameCut_h (f r : Nat) : Option Hint := (Ab.look (α := List (Nat × Hint)) [(11, [(7, ⟨[.tmp 7 .str, .tmp 8 (.int .i64), .tmp 9 (.int .i64), .tmp 10 (.int .i64)], [35, 36, 37, 38, 42, 43, 44, 45, 46, 47, 41, 48, 49, 11, 12, 50, 51, 52, 53, 54, 55, 56, 57, 58, 59, 60, 39, 40]⟩)])] f).bind fun l => Ab.look l r
theorem law03_FrameCut_ev (k : Nat) (x : (List.foldr Ty.cons .nil [(.sl .str), (.int .i64), (.int .i64)]).den) : evTop Go.Proofs.Try.prog law03_FrameCut_g law03_FrameCut_h 20 k 11 (argAVs [(.sl .str), (.int .i64), (.int .i64)] x) [.bool] = law03_FrameCut k x.1 x.2.1 x.2.2.1 := by kernel_rfl
theorem law03_FrameCut_ok (k : Nat) : FnOk Go.Proofs.Try.prog 11 (law03_FrameCut_sig k) := fn_ok' (Γ := law03_FrameCut_g) (H := law03_FrameCut_h) (fun k => (.cons (ref01_Short_ok k) (.cons (frame_Put_ok k) (.cons (frame_All_ok k) (.cons (ref01_Texts_ok k) (.cons (law03_framed_ok k) GOk.nil)))))) (by kernel_rfl) (by kernel_rfl) (law03_FrameCut_ev k)
end Go.Proofs.Ytaadndikbecdbaa.A
