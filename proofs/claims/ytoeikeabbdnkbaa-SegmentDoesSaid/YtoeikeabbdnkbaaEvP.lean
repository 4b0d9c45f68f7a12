/- PRINTED BY resid.py (ours): each function's calls come to what is printed of it. -/
import Derived.Test.YtoeikeabbdnkbaaFnP
import Derived.Test.YtoeikeabbdnkbaaAbG
import Derived.Test.YtoeikeabbdnkbaaProg
import Derived.Test.YtoeikeabbdnkbaaAHSum
namespace Go.Proofs.Ytoeikeabbdnkbaa.A
open Go Go.Proofs.Ytoeikeabbdnkbaa.Ab
set_option linter.unusedVariables false
set_option maxRecDepth 100000
def wire_GetInt_sig (k : Nat) : Sig := ⟨[.str], [(.int .i64), .str, (.int .i64)], fun x => wire_GetInt k x.1⟩
def wire_GetInt_g (k : Nat) : FuncId → Option Sig := Ab.look []
def wire_GetInt_h (f r : Nat) : Option Hint := (Ab.look (α := List (Nat × Hint)) [(103, [(3, ⟨[.tmp 5 (.int .i64), .tmp 11 (.int .i64)], [12, 13, 6, 14, 15, 16, 17, 18, 19], false⟩), (14, ⟨[.tmp 2 (.int .i64), .tmp 3 .str, .tmp 4 (.int .i64), .tmp 7 (.int .i64), .tmp 8 (.int .i64)], [28, 29, 32, 33, 34, 35, 36, 37, 38, 39, 40, 41, 42, 43, 44, 45, 46, 47, 48, 49, 50, 51, 52, 53, 54, 30, 31], false⟩)])] f).bind fun l => Ab.look l r
theorem wire_GetInt_ev (k : Nat) (x : (List.foldr Ty.cons .nil [.str]).den) : evTop Go.Proofs.Try.prog wire_GetInt_g (fun _ => Ab.look []) wire_GetInt_h 20 k 103 (argAVs [.str] x) [(.int .i64), .str, (.int .i64)] = wire_GetInt k x.1 := by kernel_rfl
theorem wire_GetInt_ok (k : Nat) : FnOk Go.Proofs.Try.prog 103 (wire_GetInt_sig k) := fn_ok' (Γ := wire_GetInt_g) (H := wire_GetInt_h) (fun k => GOk.nil) (by kernel_rfl) (by kernel_rfl) (wire_GetInt_ev k)
def wire_GetText_sig (k : Nat) : Sig := ⟨[.str], [.str, .str, (.int .i64)], fun x => wire_GetText k x.1⟩
def wire_GetText_g (k : Nat) : FuncId → Option Sig := Ab.look [(103, wire_GetInt_sig k)]
def wire_GetText_h (f r : Nat) : Option Hint := (Ab.look (α := List (Nat × Hint)) [] f).bind fun l => Ab.look l r
theorem wire_GetText_ev (k : Nat) (x : (List.foldr Ty.cons .nil [.str]).den) : evTop Go.Proofs.Try.prog wire_GetText_g (fun _ => Ab.look []) wire_GetText_h 20 k 148 (argAVs [.str] x) [.str, .str, (.int .i64)] = wire_GetText k x.1 := by kernel_rfl
theorem wire_GetText_ok (k : Nat) : FnOk Go.Proofs.Try.prog 148 (wire_GetText_sig k) := fn_ok' (Γ := wire_GetText_g) (H := wire_GetText_h) (fun k => (.cons (wire_GetInt_ok k) GOk.nil)) (by kernel_rfl) (by kernel_rfl) (wire_GetText_ev k)
def frame_Get_sig (k : Nat) : Sig := ⟨[.str], [(.int .i64), .str, .str, (.int .i64)], fun x => frame_Get k x.1⟩
def frame_Get_g (k : Nat) : FuncId → Option Sig := Ab.look [(145, sum_Of_sig k), (103, wire_GetInt_sig k), (148, wire_GetText_sig k)]
def frame_Get_h (f r : Nat) : Option Hint := (Ab.look (α := List (Nat × Hint)) [] f).bind fun l => Ab.look l r
theorem frame_Get_ev (k : Nat) (x : (List.foldr Ty.cons .nil [.str]).den) : evTop Go.Proofs.Try.prog frame_Get_g (fun _ => Ab.look []) frame_Get_h 20 k 129 (argAVs [.str] x) [(.int .i64), .str, .str, (.int .i64)] = frame_Get k x.1 := by kernel_rfl
theorem frame_Get_ok (k : Nat) : FnOk Go.Proofs.Try.prog 129 (frame_Get_sig k) := fn_ok' (Γ := frame_Get_g) (H := frame_Get_h) (fun k => (.cons (sum_Of_ok k) (.cons (wire_GetInt_ok k) (.cons (wire_GetText_ok k) GOk.nil)))) (by kernel_rfl) (by kernel_rfl) (frame_Get_ev k)
end Go.Proofs.Ytoeikeabbdnkbaa.A
