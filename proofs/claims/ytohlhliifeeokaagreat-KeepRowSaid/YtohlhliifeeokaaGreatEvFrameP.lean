/- PRINTED BY resid.py (ours): each function's calls come to what is printed of it. -/
import Derived.Test.YtohlhliifeeokaaGreatFnFrameP
import Derived.Test.YtohlhliifeeokaaGreatAbG
import Derived.Test.YtohlhliifeeokaaGreatProg
import Derived.Test.YtohlhliifeeokaaGreatAHInts
import Derived.Test.YtohlhliifeeokaaGreatAHSum
namespace Go.Proofs.YtohlhliifeeokaaGreat.A
open Go Go.Proofs.YtohlhliifeeokaaGreat.Ab
set_option linter.unusedVariables false
set_option maxRecDepth 100000
def wire_GetInt_sig (k : Nat) : Sig := ⟨[.str], [(.int .i64), .str, (.int .i64)], fun x => wire_GetInt k x.1⟩
def wire_GetInt_g (k : Nat) : FuncId → Option Sig := Ab.look []
def wire_GetInt_h (f r : Nat) : Option Hint := (Ab.look (α := List (Nat × Hint)) [(74, [(3, ⟨[.tmp 5 (.int .i64), .tmp 11 (.int .i64)], [12, 13, 6, 14, 15, 16, 17, 18, 19], false⟩), (14, ⟨[.tmp 2 (.int .i64), .tmp 3 .str, .tmp 4 (.int .i64), .tmp 7 (.int .i64), .tmp 8 (.int .i64)], [28, 29, 32, 33, 34, 35, 36, 37, 38, 39, 40, 41, 42, 43, 44, 45, 46, 47, 48, 49, 50, 51, 52, 53, 54, 30, 31], false⟩)])] f).bind fun l => Ab.look l r
theorem wire_GetInt_ev (k : Nat) (x : (List.foldr Ty.cons .nil [.str]).den) : evTop Go.Proofs.Tryz.prog wire_GetInt_g (fun _ => Ab.look []) wire_GetInt_h 20 k 74 (argAVs [.str] x) [(.int .i64), .str, (.int .i64)] = wire_GetInt k x.1 := by kernel_rfl
theorem wire_GetInt_ok (k : Nat) : FnOk Go.Proofs.Tryz.prog 74 (wire_GetInt_sig k) := fn_ok' (Γ := wire_GetInt_g) (H := wire_GetInt_h) (fun k => GOk.nil) (by kernel_rfl) (by kernel_rfl) (wire_GetInt_ev k)
def wire_Int_sig (k : Nat) : Sig := ⟨[(.int .i64)], [.str, (.int .i64)], fun x => wire_Int k x.1⟩
def wire_Int_g (k : Nat) : FuncId → Option Sig := Ab.look [(89, wire_Ints_sig k)]
def wire_Int_h (f r : Nat) : Option Hint := (Ab.look (α := List (Nat × Hint)) [] f).bind fun l => Ab.look l r
theorem wire_Int_ev (k : Nat) (x : (List.foldr Ty.cons .nil [(.int .i64)]).den) : evTop Go.Proofs.Tryz.prog wire_Int_g (fun _ => Ab.look []) wire_Int_h 20 k 80 (argAVs [(.int .i64)] x) [.str, (.int .i64)] = wire_Int k x.1 := by kernel_rfl
theorem wire_Int_ok (k : Nat) : FnOk Go.Proofs.Tryz.prog 80 (wire_Int_sig k) := fn_ok' (Γ := wire_Int_g) (H := wire_Int_h) (fun k => (.cons (wire_Ints_ok k) GOk.nil)) (by kernel_rfl) (by kernel_rfl) (wire_Int_ev k)
def wire_Text_sig (k : Nat) : Sig := ⟨[.str], [.str, (.int .i64)], fun x => wire_Text k x.1⟩
def wire_Text_g (k : Nat) : FuncId → Option Sig := Ab.look [(80, wire_Int_sig k)]
def wire_Text_h (f r : Nat) : Option Hint := (Ab.look (α := List (Nat × Hint)) [] f).bind fun l => Ab.look l r
theorem wire_Text_ev (k : Nat) (x : (List.foldr Ty.cons .nil [.str]).den) : evTop Go.Proofs.Tryz.prog wire_Text_g (fun _ => Ab.look []) wire_Text_h 20 k 90 (argAVs [.str] x) [.str, (.int .i64)] = wire_Text k x.1 := by kernel_rfl
theorem wire_Text_ok (k : Nat) : FnOk Go.Proofs.Tryz.prog 90 (wire_Text_sig k) := fn_ok' (Γ := wire_Text_g) (H := wire_Text_h) (fun k => (.cons (wire_Int_ok k) GOk.nil)) (by kernel_rfl) (by kernel_rfl) (wire_Text_ev k)
def frame_Put_sig (k : Nat) : Sig := ⟨[(.int .i64), .str], [.str, (.int .i64)], fun x => frame_Put k x.1 x.2.1⟩
def frame_Put_g (k : Nat) : FuncId → Option Sig := Ab.look [(90, wire_Text_sig k), (80, wire_Int_sig k), (91, sum_Over_sig k)]
def frame_Put_h (f r : Nat) : Option Hint := (Ab.look (α := List (Nat × Hint)) [] f).bind fun l => Ab.look l r
theorem frame_Put_ev (k : Nat) (x : (List.foldr Ty.cons .nil [(.int .i64), .str]).den) : evTop Go.Proofs.Tryz.prog frame_Put_g (fun _ => Ab.look []) frame_Put_h 20 k 81 (argAVs [(.int .i64), .str] x) [.str, (.int .i64)] = frame_Put k x.1 x.2.1 := by kernel_rfl
theorem frame_Put_ok (k : Nat) : FnOk Go.Proofs.Tryz.prog 81 (frame_Put_sig k) := fn_ok' (Γ := frame_Put_g) (H := frame_Put_h) (fun k => (.cons (wire_Text_ok k) (.cons (wire_Int_ok k) (.cons (sum_Over_ok k) GOk.nil)))) (by kernel_rfl) (by kernel_rfl) (frame_Put_ev k)
def wire_GetText_sig (k : Nat) : Sig := ⟨[.str], [.str, .str, (.int .i64)], fun x => wire_GetText k x.1⟩
def wire_GetText_g (k : Nat) : FuncId → Option Sig := Ab.look [(74, wire_GetInt_sig k)]
def wire_GetText_h (f r : Nat) : Option Hint := (Ab.look (α := List (Nat × Hint)) [] f).bind fun l => Ab.look l r
theorem wire_GetText_ev (k : Nat) (x : (List.foldr Ty.cons .nil [.str]).den) : evTop Go.Proofs.Tryz.prog wire_GetText_g (fun _ => Ab.look []) wire_GetText_h 20 k 101 (argAVs [.str] x) [.str, .str, (.int .i64)] = wire_GetText k x.1 := by kernel_rfl
theorem wire_GetText_ok (k : Nat) : FnOk Go.Proofs.Tryz.prog 101 (wire_GetText_sig k) := fn_ok' (Γ := wire_GetText_g) (H := wire_GetText_h) (fun k => (.cons (wire_GetInt_ok k) GOk.nil)) (by kernel_rfl) (by kernel_rfl) (wire_GetText_ev k)
def frame_Get_sig (k : Nat) : Sig := ⟨[.str], [(.int .i64), .str, .str, (.int .i64)], fun x => frame_Get k x.1⟩
def frame_Get_g (k : Nat) : FuncId → Option Sig := Ab.look [(98, sum_Of_sig k), (74, wire_GetInt_sig k), (101, wire_GetText_sig k)]
def frame_Get_h (f r : Nat) : Option Hint := (Ab.look (α := List (Nat × Hint)) [] f).bind fun l => Ab.look l r
theorem frame_Get_ev (k : Nat) (x : (List.foldr Ty.cons .nil [.str]).den) : evTop Go.Proofs.Tryz.prog frame_Get_g (fun _ => Ab.look []) frame_Get_h 20 k 87 (argAVs [.str] x) [(.int .i64), .str, .str, (.int .i64)] = frame_Get k x.1 := by kernel_rfl
theorem frame_Get_ok (k : Nat) : FnOk Go.Proofs.Tryz.prog 87 (frame_Get_sig k) := fn_ok' (Γ := frame_Get_g) (H := frame_Get_h) (fun k => (.cons (sum_Of_ok k) (.cons (wire_GetInt_ok k) (.cons (wire_GetText_ok k) GOk.nil)))) (by kernel_rfl) (by kernel_rfl) (frame_Get_ev k)
end Go.Proofs.YtohlhliifeeokaaGreat.A
