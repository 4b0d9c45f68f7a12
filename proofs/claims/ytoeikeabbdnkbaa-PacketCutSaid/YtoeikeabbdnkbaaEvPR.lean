/- PRINTED BY resid.py (ours): each function's calls come to what is printed of it. -/
import Derived.Test.YtoeikeabbdnkbaaFnPR
import Derived.Test.YtoeikeabbdnkbaaAbG
import Derived.Test.YtoeikeabbdnkbaaProg
import Derived.Test.YtoeikeabbdnkbaaAHSum
import Derived.Test.YtoeikeabbdnkbaaAHCloneT
import Derived.Test.YtoeikeabbdnkbaaAHRow
import Derived.Test.YtoeikeabbdnkbaaEvFrameP
namespace Go.Proofs.Ytoeikeabbdnkbaa.A
open Go Go.Proofs.Ytoeikeabbdnkbaa.Ab
set_option linter.unusedVariables false
set_option maxRecDepth 100000
def machine_within_sig (k : Nat) : Sig := ⟨[(.int .i64), (.int .i64), (.int .i64)], [.bool], fun x => machine_within k x.1 x.2.1 x.2.2.1⟩
def machine_within_g (k : Nat) : FuncId → Option Sig := Ab.look []
def machine_within_h (f r : Nat) : Option Hint := (Ab.look (α := List (Nat × Hint)) [] f).bind fun l => Ab.look l r
theorem machine_within_ev (k : Nat) (x : (List.foldr Ty.cons .nil [(.int .i64), (.int .i64), (.int .i64)]).den) : evTop Go.Proofs.Try.prog machine_within_g machine_within_h 20 k 104 (argAVs [(.int .i64), (.int .i64), (.int .i64)] x) [.bool] = machine_within k x.1 x.2.1 x.2.2.1 := by kernel_rfl
theorem machine_within_ok (k : Nat) : FnOk Go.Proofs.Try.prog 104 (machine_within_sig k) := fn_ok' (Γ := machine_within_g) (H := machine_within_h) (fun k => GOk.nil) (by kernel_rfl) (by kernel_rfl) (machine_within_ev k)
def spot_place_may_sig (k : Nat) : Sig := ⟨[(.cons (.int .i64) (.cons (.int .i64) .nil))], [.bool], fun x => spot_place_may k x.1⟩
def spot_place_may_g (k : Nat) : FuncId → Option Sig := Ab.look []
def spot_place_may_h (f r : Nat) : Option Hint := (Ab.look (α := List (Nat × Hint)) [] f).bind fun l => Ab.look l r
theorem spot_place_may_ev (k : Nat) (x : (List.foldr Ty.cons .nil [(.cons (.int .i64) (.cons (.int .i64) .nil))]).den) : evTop Go.Proofs.Try.prog spot_place_may_g spot_place_may_h 20 k 131 (argAVs [(.cons (.int .i64) (.cons (.int .i64) .nil))] x) [.bool] = spot_place_may k x.1 := by kernel_rfl
theorem spot_place_may_ok (k : Nat) : FnOk Go.Proofs.Try.prog 131 (spot_place_may_sig k) := fn_ok' (Γ := spot_place_may_g) (H := spot_place_may_h) (fun k => GOk.nil) (by kernel_rfl) (by kernel_rfl) (spot_place_may_ev k)
def spot_Is_sig (k : Nat) : Sig := ⟨[(.cons (.int .i64) (.cons (.int .i64) .nil))], [.bool], fun x => spot_Is k x.1⟩
def spot_Is_g (k : Nat) : FuncId → Option Sig := Ab.look [(131, spot_place_may_sig k)]
def spot_Is_h (f r : Nat) : Option Hint := (Ab.look (α := List (Nat × Hint)) [] f).bind fun l => Ab.look l r
theorem spot_Is_ev (k : Nat) (x : (List.foldr Ty.cons .nil [(.cons (.int .i64) (.cons (.int .i64) .nil))]).den) : evTop Go.Proofs.Try.prog spot_Is_g spot_Is_h 20 k 105 (argAVs [(.cons (.int .i64) (.cons (.int .i64) .nil))] x) [.bool] = spot_Is k x.1 := by kernel_rfl
theorem spot_Is_ok (k : Nat) : FnOk Go.Proofs.Try.prog 105 (spot_Is_sig k) := fn_ok' (Γ := spot_Is_g) (H := spot_Is_h) (fun k => (.cons (spot_place_may_ok k) GOk.nil)) (by kernel_rfl) (by kernel_rfl) (spot_Is_ev k)
def machine_May_sig (k : Nat) : Sig := ⟨[(.cons (.int .i64) (.cons (.int .i64) (.cons (.int .i64) (.cons (.int .i64) (.cons (.int .i64) (.cons (.int .i64) (.cons (.int .i64) (.cons (.int .i64) .nil))))))))], [.bool], fun x => machine_May k x.1⟩
def machine_May_g (k : Nat) : FuncId → Option Sig := Ab.look [(104, machine_within_sig k), (105, spot_Is_sig k)]
def machine_May_h (f r : Nat) : Option Hint := (Ab.look (α := List (Nat × Hint)) [] f).bind fun l => Ab.look l r
theorem machine_May_ev (k : Nat) (x : (List.foldr Ty.cons .nil [(.cons (.int .i64) (.cons (.int .i64) (.cons (.int .i64) (.cons (.int .i64) (.cons (.int .i64) (.cons (.int .i64) (.cons (.int .i64) (.cons (.int .i64) .nil))))))))]).den) : evTop Go.Proofs.Try.prog machine_May_g machine_May_h 20 k 64 (argAVs [(.cons (.int .i64) (.cons (.int .i64) (.cons (.int .i64) (.cons (.int .i64) (.cons (.int .i64) (.cons (.int .i64) (.cons (.int .i64) (.cons (.int .i64) .nil))))))))] x) [.bool] = machine_May k x.1 := by kernel_rfl
theorem machine_May_ok (k : Nat) : FnOk Go.Proofs.Try.prog 64 (machine_May_sig k) := fn_ok' (Γ := machine_May_g) (H := machine_May_h) (fun k => (.cons (machine_within_ok k) (.cons (spot_Is_ok k) GOk.nil))) (by kernel_rfl) (by kernel_rfl) (machine_May_ev k)
def wire_GetInt_sig (k : Nat) : Sig := ⟨[.str], [(.int .i64), .str, (.int .i64)], fun x => wire_GetInt k x.1⟩
def wire_GetInt_g (k : Nat) : FuncId → Option Sig := Ab.look []
def wire_GetInt_h (f r : Nat) : Option Hint := (Ab.look (α := List (Nat × Hint)) [(103, [(3, ⟨[.tmp 5 (.int .i64), .tmp 11 (.int .i64)], [12, 13, 6, 14, 15, 16, 17, 18, 19]⟩), (14, ⟨[.tmp 2 (.int .i64), .tmp 3 .str, .tmp 4 (.int .i64), .tmp 7 (.int .i64), .tmp 8 (.int .i64)], [28, 29, 32, 33, 34, 35, 36, 37, 38, 39, 40, 41, 42, 43, 44, 45, 46, 47, 48, 49, 50, 51, 52, 53, 54, 30, 31]⟩)])] f).bind fun l => Ab.look l r
theorem wire_GetInt_ev (k : Nat) (x : (List.foldr Ty.cons .nil [.str]).den) : evTop Go.Proofs.Try.prog wire_GetInt_g wire_GetInt_h 20 k 103 (argAVs [.str] x) [(.int .i64), .str, (.int .i64)] = wire_GetInt k x.1 := by kernel_rfl
theorem wire_GetInt_ok (k : Nat) : FnOk Go.Proofs.Try.prog 103 (wire_GetInt_sig k) := fn_ok' (Γ := wire_GetInt_g) (H := wire_GetInt_h) (fun k => GOk.nil) (by kernel_rfl) (by kernel_rfl) (wire_GetInt_ev k)
def wire_GetText_sig (k : Nat) : Sig := ⟨[.str], [.str, .str, (.int .i64)], fun x => wire_GetText k x.1⟩
def wire_GetText_g (k : Nat) : FuncId → Option Sig := Ab.look [(103, wire_GetInt_sig k)]
def wire_GetText_h (f r : Nat) : Option Hint := (Ab.look (α := List (Nat × Hint)) [] f).bind fun l => Ab.look l r
theorem wire_GetText_ev (k : Nat) (x : (List.foldr Ty.cons .nil [.str]).den) : evTop Go.Proofs.Try.prog wire_GetText_g wire_GetText_h 20 k 148 (argAVs [.str] x) [.str, .str, (.int .i64)] = wire_GetText k x.1 := by kernel_rfl
theorem wire_GetText_ok (k : Nat) : FnOk Go.Proofs.Try.prog 148 (wire_GetText_sig k) := fn_ok' (Γ := wire_GetText_g) (H := wire_GetText_h) (fun k => (.cons (wire_GetInt_ok k) GOk.nil)) (by kernel_rfl) (by kernel_rfl) (wire_GetText_ev k)
def frame_Get_sig (k : Nat) : Sig := ⟨[.str], [(.int .i64), .str, .str, (.int .i64)], fun x => frame_Get k x.1⟩
def frame_Get_g (k : Nat) : FuncId → Option Sig := Ab.look [(145, sum_Of_sig k), (103, wire_GetInt_sig k), (148, wire_GetText_sig k)]
def frame_Get_h (f r : Nat) : Option Hint := (Ab.look (α := List (Nat × Hint)) [] f).bind fun l => Ab.look l r
theorem frame_Get_ev (k : Nat) (x : (List.foldr Ty.cons .nil [.str]).den) : evTop Go.Proofs.Try.prog frame_Get_g frame_Get_h 20 k 129 (argAVs [.str] x) [(.int .i64), .str, .str, (.int .i64)] = frame_Get k x.1 := by kernel_rfl
theorem frame_Get_ok (k : Nat) : FnOk Go.Proofs.Try.prog 129 (frame_Get_sig k) := fn_ok' (Γ := frame_Get_g) (H := frame_Get_h) (fun k => (.cons (sum_Of_ok k) (.cons (wire_GetInt_ok k) (.cons (wire_GetText_ok k) GOk.nil)))) (by kernel_rfl) (by kernel_rfl) (frame_Get_ev k)
def frame_GetRow_sig (k : Nat) : Sig := ⟨[.str], [(.int .i64), (.sl .str), .str, (.int .i64)], fun x => frame_GetRow k x.1⟩
def frame_GetRow_g (k : Nat) : FuncId → Option Sig := Ab.look [(129, frame_Get_sig k), (103, wire_GetInt_sig k), (148, wire_GetText_sig k)]
def frame_GetRow_h (f r : Nat) : Option Hint := (Ab.look (α := List (Nat × Hint)) [(101, [(10, ⟨[.row 14 9 .str, .tmp 42 (.int .i64), .box 1000011 (.int .i64), .box 2000011 .str], [43, 44, 45, 46, 47, 48, 49]⟩)])] f).bind fun l => Ab.look l r
theorem frame_GetRow_ev (k : Nat) (x : (List.foldr Ty.cons .nil [.str]).den) : evTop Go.Proofs.Try.prog frame_GetRow_g frame_GetRow_h 20 k 101 (argAVs [.str] x) [(.int .i64), (.sl .str), .str, (.int .i64)] = frame_GetRow k x.1 := by kernel_rfl
theorem frame_GetRow_ok (k : Nat) : FnOk Go.Proofs.Try.prog 101 (frame_GetRow_sig k) := fn_ok' (Γ := frame_GetRow_g) (H := frame_GetRow_h) (fun k => (.cons (frame_Get_ok k) (.cons (wire_GetInt_ok k) (.cons (wire_GetText_ok k) GOk.nil)))) (by kernel_rfl) (by kernel_rfl) (frame_GetRow_ev k)
def packet_GetCmd_sig (k : Nat) : Sig := ⟨[.str], [(.cons (.int .i64) (.cons (.int .i64) (.cons (.int .i64) (.cons (.int .i64) (.cons (.int .i64) (.cons (.int .i64) (.cons (.int .i64) (.cons (.int .i64) .nil)))))))), (.int .i64)], fun x => packet_GetCmd k x.1⟩
def packet_GetCmd_g (k : Nat) : FuncId → Option Sig := Ab.look [(64, machine_May_sig k), (101, frame_GetRow_sig k), (102, slices_Clone_string_string_sig k), (103, wire_GetInt_sig k)]
def packet_GetCmd_h (f r : Nat) : Option Hint := (Ab.look (α := List (Nat × Hint)) [] f).bind fun l => Ab.look l r
theorem packet_GetCmd_ev (k : Nat) (x : (List.foldr Ty.cons .nil [.str]).den) : evTop Go.Proofs.Try.prog packet_GetCmd_g packet_GetCmd_h 20 k 21 (argAVs [.str] x) [(.cons (.int .i64) (.cons (.int .i64) (.cons (.int .i64) (.cons (.int .i64) (.cons (.int .i64) (.cons (.int .i64) (.cons (.int .i64) (.cons (.int .i64) .nil)))))))), (.int .i64)] = packet_GetCmd k x.1 := by kernel_rfl
theorem packet_GetCmd_ok (k : Nat) : FnOk Go.Proofs.Try.prog 21 (packet_GetCmd_sig k) := fn_ok' (Γ := packet_GetCmd_g) (H := packet_GetCmd_h) (fun k => (.cons (machine_May_ok k) (.cons (frame_GetRow_ok k) (.cons (slices_Clone_string_string_ok k) (.cons (wire_GetInt_ok k) GOk.nil))))) (by kernel_rfl) (by kernel_rfl) (packet_GetCmd_ev k)
def session_open_sig (k : Nat) : Sig := ⟨[(.cons (.int .i64) (.cons (.int .i64) (.cons (.int .i64) (.cons (.int .i64) (.cons (.int .i64) (.cons (.sl .str) .nil))))))], [(.cons (.int .i64) (.cons (.int .i64) (.cons (.sl .str) (.cons (.int .i64) (.cons (.int .i64) (.cons (.int .i64) .nil))))))], fun x => session_open k x.1⟩
def session_open_g (k : Nat) : FuncId → Option Sig := Ab.look []
def session_open_h (f r : Nat) : Option Hint := (Ab.look (α := List (Nat × Hint)) [] f).bind fun l => Ab.look l r
theorem session_open_ev (k : Nat) (x : (List.foldr Ty.cons .nil [(.cons (.int .i64) (.cons (.int .i64) (.cons (.int .i64) (.cons (.int .i64) (.cons (.int .i64) (.cons (.sl .str) .nil))))))]).den) : evTop Go.Proofs.Try.prog session_open_g session_open_h 20 k 133 (argAVs [(.cons (.int .i64) (.cons (.int .i64) (.cons (.int .i64) (.cons (.int .i64) (.cons (.int .i64) (.cons (.sl .str) .nil))))))] x) [(.cons (.int .i64) (.cons (.int .i64) (.cons (.sl .str) (.cons (.int .i64) (.cons (.int .i64) (.cons (.int .i64) .nil))))))] = session_open k x.1 := by kernel_rfl
theorem session_open_ok (k : Nat) : FnOk Go.Proofs.Try.prog 133 (session_open_sig k) := fn_ok' (Γ := session_open_g) (H := session_open_h) (fun k => GOk.nil) (by kernel_rfl) (by kernel_rfl) (session_open_ev k)
def session_reply_may_1_sig (k : Nat) : Sig := ⟨[.str], [.bool], fun x => session_reply_may_1 k x.1⟩
def session_reply_may_1_g (k : Nat) : FuncId → Option Sig := Ab.look []
def session_reply_may_1_h (f r : Nat) : Option Hint := (Ab.look (α := List (Nat × Hint)) [] f).bind fun l => Ab.look l r
theorem session_reply_may_1_ev (k : Nat) (x : (List.foldr Ty.cons .nil [.str]).den) : evTop Go.Proofs.Try.prog session_reply_may_1_g session_reply_may_1_h 20 k 157 (argAVs [.str] x) [.bool] = session_reply_may_1 k x.1 := by kernel_rfl
theorem session_reply_may_1_ok (k : Nat) : FnOk Go.Proofs.Try.prog 157 (session_reply_may_1_sig k) := fn_ok' (Γ := session_reply_may_1_g) (H := session_reply_may_1_h) (fun k => GOk.nil) (by kernel_rfl) (by kernel_rfl) (session_reply_may_1_ev k)
def session_reply_may_sig (k : Nat) : Sig := ⟨[(.cons (.int .i64) (.cons (.int .i64) (.cons (.sl .str) .nil)))], [.bool], fun x => session_reply_may k x.1⟩
def session_reply_may_g (k : Nat) : FuncId → Option Sig := Ab.look [(157, session_reply_may_1_sig k)]
def session_reply_may_h (f r : Nat) : Option Hint := (Ab.look (α := List (Nat × Hint)) [(135, [(2, ⟨[.tmp 4 (.int .i64), .tmp 8 (.int .i64)], [9, 10, 5, 11, 12, 13, 14, 15, 16, 17, 18]⟩)])] f).bind fun l => Ab.look l r
theorem session_reply_may_ev (k : Nat) (x : (List.foldr Ty.cons .nil [(.cons (.int .i64) (.cons (.int .i64) (.cons (.sl .str) .nil)))]).den) : evTop Go.Proofs.Try.prog session_reply_may_g session_reply_may_h 20 k 150 (argAVs [(.cons (.int .i64) (.cons (.int .i64) (.cons (.sl .str) .nil)))] x) [.bool] = session_reply_may k x.1 := by kernel_rfl
theorem session_reply_may_ok (k : Nat) : FnOk Go.Proofs.Try.prog 150 (session_reply_may_sig k) := fn_ok' (Γ := session_reply_may_g) (H := session_reply_may_h) (fun k => (.cons (session_reply_may_1_ok k) GOk.nil)) (by kernel_rfl) (by kernel_rfl) (session_reply_may_ev k)
def session_client_right_sig (k : Nat) : Sig := ⟨[(.cons (.int .i64) (.cons (.int .i64) (.cons (.sl .str) (.cons (.int .i64) (.cons (.int .i64) (.cons (.int .i64) .nil))))))], [.bool], fun x => session_client_right k x.1⟩
def session_client_right_g (k : Nat) : FuncId → Option Sig := Ab.look [(150, session_reply_may_sig k)]
def session_client_right_h (f r : Nat) : Option Hint := (Ab.look (α := List (Nat × Hint)) [] f).bind fun l => Ab.look l r
theorem session_client_right_ev (k : Nat) (x : (List.foldr Ty.cons .nil [(.cons (.int .i64) (.cons (.int .i64) (.cons (.sl .str) (.cons (.int .i64) (.cons (.int .i64) (.cons (.int .i64) .nil))))))]).den) : evTop Go.Proofs.Try.prog session_client_right_g session_client_right_h 20 k 134 (argAVs [(.cons (.int .i64) (.cons (.int .i64) (.cons (.sl .str) (.cons (.int .i64) (.cons (.int .i64) (.cons (.int .i64) .nil))))))] x) [.bool] = session_client_right k x.1 := by kernel_rfl
theorem session_client_right_ok (k : Nat) : FnOk Go.Proofs.Try.prog 134 (session_client_right_sig k) := fn_ok' (Γ := session_client_right_g) (H := session_client_right_h) (fun k => (.cons (session_reply_may_ok k) GOk.nil)) (by kernel_rfl) (by kernel_rfl) (session_client_right_ev k)
def session_Is_sig (k : Nat) : Sig := ⟨[(.sl (.cons (.int .i64) (.cons (.int .i64) (.cons (.int .i64) (.cons (.int .i64) (.cons (.int .i64) (.cons (.sl .str) .nil)))))))], [.bool], fun x => session_Is k x.1⟩
def session_Is_g (k : Nat) : FuncId → Option Sig := Ab.look [(133, session_open_sig k), (134, session_client_right_sig k)]
def session_Is_h (f r : Nat) : Option Hint := (Ab.look (α := List (Nat × Hint)) [(111, [(2, ⟨[.tmp 2 .bool, .tmp 7 (.int .i64)], [8, 9, 10, 11, 4, 3, 12, 13, 14, 15, 16, 17, 18, 19, 20, 21, 22, 23, 24, 25, 26, 27, 28, 29, 30, 31]⟩)])] f).bind fun l => Ab.look l r
theorem session_Is_ev (k : Nat) (x : (List.foldr Ty.cons .nil [(.sl (.cons (.int .i64) (.cons (.int .i64) (.cons (.int .i64) (.cons (.int .i64) (.cons (.int .i64) (.cons (.sl .str) .nil)))))))]).den) : evTop Go.Proofs.Try.prog session_Is_g session_Is_h 20 k 111 (argAVs [(.sl (.cons (.int .i64) (.cons (.int .i64) (.cons (.int .i64) (.cons (.int .i64) (.cons (.int .i64) (.cons (.sl .str) .nil)))))))] x) [.bool] = session_Is k x.1 := by kernel_rfl
theorem session_Is_ok (k : Nat) : FnOk Go.Proofs.Try.prog 111 (session_Is_sig k) := fn_ok' (Γ := session_Is_g) (H := session_Is_h) (fun k => (.cons (session_open_ok k) (.cons (session_client_right_ok k) GOk.nil))) (by kernel_rfl) (by kernel_rfl) (session_Is_ev k)
def packet_may_sig (k : Nat) : Sig := ⟨[(.cons (.int .i64) (.cons (.int .i64) (.cons (.sl .str) .nil)))], [.bool], fun x => packet_may k x.1⟩
def packet_may_g (k : Nat) : FuncId → Option Sig := Ab.look [(111, session_Is_sig k)]
def packet_may_h (f r : Nat) : Option Hint := (Ab.look (α := List (Nat × Hint)) [] f).bind fun l => Ab.look l r
theorem packet_may_ev (k : Nat) (x : (List.foldr Ty.cons .nil [(.cons (.int .i64) (.cons (.int .i64) (.cons (.sl .str) .nil)))]).den) : evTop Go.Proofs.Try.prog packet_may_g packet_may_h 20 k 69 (argAVs [(.cons (.int .i64) (.cons (.int .i64) (.cons (.sl .str) .nil)))] x) [.bool] = packet_may k x.1 := by kernel_rfl
theorem packet_may_ok (k : Nat) : FnOk Go.Proofs.Try.prog 69 (packet_may_sig k) := fn_ok' (Γ := packet_may_g) (H := packet_may_h) (fun k => (.cons (session_Is_ok k) GOk.nil)) (by kernel_rfl) (by kernel_rfl) (packet_may_ev k)
def packet_GetAnswer_sig (k : Nat) : Sig := ⟨[.str], [(.cons (.int .i64) (.cons (.int .i64) (.cons (.sl .str) .nil))), (.int .i64)], fun x => packet_GetAnswer k x.1⟩
def packet_GetAnswer_g (k : Nat) : FuncId → Option Sig := Ab.look [(101, frame_GetRow_sig k), (102, slices_Clone_string_string_sig k), (103, wire_GetInt_sig k), (69, packet_may_sig k)]
def packet_GetAnswer_h (f r : Nat) : Option Hint := (Ab.look (α := List (Nat × Hint)) [] f).bind fun l => Ab.look l r
theorem packet_GetAnswer_ev (k : Nat) (x : (List.foldr Ty.cons .nil [.str]).den) : evTop Go.Proofs.Try.prog packet_GetAnswer_g packet_GetAnswer_h 20 k 23 (argAVs [.str] x) [(.cons (.int .i64) (.cons (.int .i64) (.cons (.sl .str) .nil))), (.int .i64)] = packet_GetAnswer k x.1 := by kernel_rfl
theorem packet_GetAnswer_ok (k : Nat) : FnOk Go.Proofs.Try.prog 23 (packet_GetAnswer_sig k) := fn_ok' (Γ := packet_GetAnswer_g) (H := packet_GetAnswer_h) (fun k => (.cons (frame_GetRow_ok k) (.cons (slices_Clone_string_string_ok k) (.cons (wire_GetInt_ok k) (.cons (packet_may_ok k) GOk.nil))))) (by kernel_rfl) (by kernel_rfl) (packet_GetAnswer_ev k)
def packet_Is_1_sig (k : Nat) : Sig := ⟨[.str], [.bool], fun x => packet_Is_1 k x.1⟩
def packet_Is_1_g (k : Nat) : FuncId → Option Sig := Ab.look []
def packet_Is_1_h (f r : Nat) : Option Hint := (Ab.look (α := List (Nat × Hint)) [] f).bind fun l => Ab.look l r
theorem packet_Is_1_ev (k : Nat) (x : (List.foldr Ty.cons .nil [.str]).den) : evTop Go.Proofs.Try.prog packet_Is_1_g packet_Is_1_h 20 k 113 (argAVs [.str] x) [.bool] = packet_Is_1 k x.1 := by kernel_rfl
theorem packet_Is_1_ok (k : Nat) : FnOk Go.Proofs.Try.prog 113 (packet_Is_1_sig k) := fn_ok' (Γ := packet_Is_1_g) (H := packet_Is_1_h) (fun k => GOk.nil) (by kernel_rfl) (by kernel_rfl) (packet_Is_1_ev k)
def packet_within_sig (k : Nat) : Sig := ⟨[(.int .i64), (.int .i64), (.int .i64)], [.bool], fun x => packet_within k x.1 x.2.1 x.2.2.1⟩
def packet_within_g (k : Nat) : FuncId → Option Sig := Ab.look []
def packet_within_h (f r : Nat) : Option Hint := (Ab.look (α := List (Nat × Hint)) [] f).bind fun l => Ab.look l r
theorem packet_within_ev (k : Nat) (x : (List.foldr Ty.cons .nil [(.int .i64), (.int .i64), (.int .i64)]).den) : evTop Go.Proofs.Try.prog packet_within_g packet_within_h 20 k 114 (argAVs [(.int .i64), (.int .i64), (.int .i64)] x) [.bool] = packet_within k x.1 x.2.1 x.2.2.1 := by kernel_rfl
theorem packet_within_ok (k : Nat) : FnOk Go.Proofs.Try.prog 114 (packet_within_sig k) := fn_ok' (Γ := packet_within_g) (H := packet_within_h) (fun k => GOk.nil) (by kernel_rfl) (by kernel_rfl) (packet_within_ev k)
def packet_Is_sig (k : Nat) : Sig := ⟨[(.cons (.int .i64) (.cons (.int .i64) (.cons (.int .i64) (.cons (.int .i64) (.cons (.int .i64) (.cons (.int .i64) (.cons (.int .i64) (.cons (.sl .str) .nil))))))))], [.bool], fun x => packet_Is k x.1⟩
def packet_Is_g (k : Nat) : FuncId → Option Sig := Ab.look [(113, packet_Is_1_sig k), (114, packet_within_sig k)]
def packet_Is_h (f r : Nat) : Option Hint := (Ab.look (α := List (Nat × Hint)) [(135, [(2, ⟨[.tmp 4 (.int .i64), .tmp 8 (.int .i64)], [9, 10, 5, 11, 12, 13, 14, 15, 16, 17, 18]⟩)])] f).bind fun l => Ab.look l r
theorem packet_Is_ev (k : Nat) (x : (List.foldr Ty.cons .nil [(.cons (.int .i64) (.cons (.int .i64) (.cons (.int .i64) (.cons (.int .i64) (.cons (.int .i64) (.cons (.int .i64) (.cons (.int .i64) (.cons (.sl .str) .nil))))))))]).den) : evTop Go.Proofs.Try.prog packet_Is_g packet_Is_h 20 k 73 (argAVs [(.cons (.int .i64) (.cons (.int .i64) (.cons (.int .i64) (.cons (.int .i64) (.cons (.int .i64) (.cons (.int .i64) (.cons (.int .i64) (.cons (.sl .str) .nil))))))))] x) [.bool] = packet_Is k x.1 := by kernel_rfl
theorem packet_Is_ok (k : Nat) : FnOk Go.Proofs.Try.prog 73 (packet_Is_sig k) := fn_ok' (Γ := packet_Is_g) (H := packet_Is_h) (fun k => (.cons (packet_Is_1_ok k) (.cons (packet_within_ok k) GOk.nil))) (by kernel_rfl) (by kernel_rfl) (packet_Is_ev k)
def packet_GetMsg_sig (k : Nat) : Sig := ⟨[.str], [(.cons (.int .i64) (.cons (.int .i64) (.cons (.int .i64) (.cons (.int .i64) (.cons (.int .i64) (.cons (.int .i64) (.cons (.int .i64) (.cons (.sl .str) .nil)))))))), (.int .i64)], fun x => packet_GetMsg k x.1⟩
def packet_GetMsg_g (k : Nat) : FuncId → Option Sig := Ab.look [(101, frame_GetRow_sig k), (102, slices_Clone_string_string_sig k), (103, wire_GetInt_sig k), (73, packet_Is_sig k)]
def packet_GetMsg_h (f r : Nat) : Option Hint := (Ab.look (α := List (Nat × Hint)) [] f).bind fun l => Ab.look l r
theorem packet_GetMsg_ev (k : Nat) (x : (List.foldr Ty.cons .nil [.str]).den) : evTop Go.Proofs.Try.prog packet_GetMsg_g packet_GetMsg_h 20 k 25 (argAVs [.str] x) [(.cons (.int .i64) (.cons (.int .i64) (.cons (.int .i64) (.cons (.int .i64) (.cons (.int .i64) (.cons (.int .i64) (.cons (.int .i64) (.cons (.sl .str) .nil)))))))), (.int .i64)] = packet_GetMsg k x.1 := by kernel_rfl
theorem packet_GetMsg_ok (k : Nat) : FnOk Go.Proofs.Try.prog 25 (packet_GetMsg_sig k) := fn_ok' (Γ := packet_GetMsg_g) (H := packet_GetMsg_h) (fun k => (.cons (frame_GetRow_ok k) (.cons (slices_Clone_string_string_ok k) (.cons (wire_GetInt_ok k) (.cons (packet_Is_ok k) GOk.nil))))) (by kernel_rfl) (by kernel_rfl) (packet_GetMsg_ev k)
def packet_numbers_sig (k : Nat) : Sig := ⟨[(.sl (.int .i64))], [.str], fun x => packet_numbers k x.1⟩
def packet_numbers_g (k : Nat) : FuncId → Option Sig := Ab.look [(121, wire_Ints_sig k)]
def packet_numbers_h (f r : Nat) : Option Hint := (Ab.look (α := List (Nat × Hint)) [] f).bind fun l => Ab.look l r
theorem packet_numbers_ev (k : Nat) (x : (List.foldr Ty.cons .nil [(.sl (.int .i64))]).den) : evTop Go.Proofs.Try.prog packet_numbers_g packet_numbers_h 20 k 77 (argAVs [(.sl (.int .i64))] x) [.str] = packet_numbers k x.1 := by kernel_rfl
theorem packet_numbers_ok (k : Nat) : FnOk Go.Proofs.Try.prog 77 (packet_numbers_sig k) := fn_ok' (Γ := packet_numbers_g) (H := packet_numbers_h) (fun k => (.cons (wire_Ints_ok k) GOk.nil)) (by kernel_rfl) (by kernel_rfl) (packet_numbers_ev k)
def packet_put_sig (k : Nat) : Sig := ⟨[(.int .i64), .str, (.sl .str)], [.str, (.int .i64)], fun x => packet_put k x.1 x.2.1 x.2.2.1⟩
def packet_put_g (k : Nat) : FuncId → Option Sig := Ab.look [(75, frame_Row_sig k)]
def packet_put_h (f r : Nat) : Option Hint := (Ab.look (α := List (Nat × Hint)) [] f).bind fun l => Ab.look l r
theorem packet_put_ev (k : Nat) (x : (List.foldr Ty.cons .nil [(.int .i64), .str, (.sl .str)]).den) : evTop Go.Proofs.Try.prog packet_put_g packet_put_h 20 k 76 (argAVs [(.int .i64), .str, (.sl .str)] x) [.str, (.int .i64)] = packet_put k x.1 x.2.1 x.2.2.1 := by kernel_rfl
theorem packet_put_ok (k : Nat) : FnOk Go.Proofs.Try.prog 76 (packet_put_sig k) := fn_ok' (Γ := packet_put_g) (H := packet_put_h) (fun k => (.cons (frame_Row_ok k) GOk.nil)) (by kernel_rfl) (by kernel_rfl) (packet_put_ev k)
def packet_PutCmd_sig (k : Nat) : Sig := ⟨[(.cons (.int .i64) (.cons (.int .i64) (.cons (.int .i64) (.cons (.int .i64) (.cons (.int .i64) (.cons (.int .i64) (.cons (.int .i64) (.cons (.int .i64) .nil))))))))], [.str, (.int .i64)], fun x => packet_PutCmd k x.1⟩
def packet_PutCmd_g (k : Nat) : FuncId → Option Sig := Ab.look [(64, machine_May_sig k), (77, packet_numbers_sig k), (76, packet_put_sig k)]
def packet_PutCmd_h (f r : Nat) : Option Hint := (Ab.look (α := List (Nat × Hint)) [] f).bind fun l => Ab.look l r
theorem packet_PutCmd_ev (k : Nat) (x : (List.foldr Ty.cons .nil [(.cons (.int .i64) (.cons (.int .i64) (.cons (.int .i64) (.cons (.int .i64) (.cons (.int .i64) (.cons (.int .i64) (.cons (.int .i64) (.cons (.int .i64) .nil))))))))]).den) : evTop Go.Proofs.Try.prog packet_PutCmd_g packet_PutCmd_h 20 k 30 (argAVs [(.cons (.int .i64) (.cons (.int .i64) (.cons (.int .i64) (.cons (.int .i64) (.cons (.int .i64) (.cons (.int .i64) (.cons (.int .i64) (.cons (.int .i64) .nil))))))))] x) [.str, (.int .i64)] = packet_PutCmd k x.1 := by kernel_rfl
theorem packet_PutCmd_ok (k : Nat) : FnOk Go.Proofs.Try.prog 30 (packet_PutCmd_sig k) := fn_ok' (Γ := packet_PutCmd_g) (H := packet_PutCmd_h) (fun k => (.cons (machine_May_ok k) (.cons (packet_numbers_ok k) (.cons (packet_put_ok k) GOk.nil)))) (by kernel_rfl) (by kernel_rfl) (packet_PutCmd_ev k)
def packet_PutAnswer_sig (k : Nat) : Sig := ⟨[(.cons (.int .i64) (.cons (.int .i64) (.cons (.sl .str) .nil)))], [.str, (.int .i64)], fun x => packet_PutAnswer k x.1⟩
def packet_PutAnswer_g (k : Nat) : FuncId → Option Sig := Ab.look [(69, packet_may_sig k), (77, packet_numbers_sig k), (76, packet_put_sig k)]
def packet_PutAnswer_h (f r : Nat) : Option Hint := (Ab.look (α := List (Nat × Hint)) [] f).bind fun l => Ab.look l r
theorem packet_PutAnswer_ev (k : Nat) (x : (List.foldr Ty.cons .nil [(.cons (.int .i64) (.cons (.int .i64) (.cons (.sl .str) .nil)))]).den) : evTop Go.Proofs.Try.prog packet_PutAnswer_g packet_PutAnswer_h 20 k 31 (argAVs [(.cons (.int .i64) (.cons (.int .i64) (.cons (.sl .str) .nil)))] x) [.str, (.int .i64)] = packet_PutAnswer k x.1 := by kernel_rfl
theorem packet_PutAnswer_ok (k : Nat) : FnOk Go.Proofs.Try.prog 31 (packet_PutAnswer_sig k) := fn_ok' (Γ := packet_PutAnswer_g) (H := packet_PutAnswer_h) (fun k => (.cons (packet_may_ok k) (.cons (packet_numbers_ok k) (.cons (packet_put_ok k) GOk.nil)))) (by kernel_rfl) (by kernel_rfl) (packet_PutAnswer_ev k)
def packet_PutMsg_sig (k : Nat) : Sig := ⟨[(.cons (.int .i64) (.cons (.int .i64) (.cons (.int .i64) (.cons (.int .i64) (.cons (.int .i64) (.cons (.int .i64) (.cons (.int .i64) (.cons (.sl .str) .nil))))))))], [.str, (.int .i64)], fun x => packet_PutMsg k x.1⟩
def packet_PutMsg_g (k : Nat) : FuncId → Option Sig := Ab.look [(73, packet_Is_sig k), (77, packet_numbers_sig k), (76, packet_put_sig k)]
def packet_PutMsg_h (f r : Nat) : Option Hint := (Ab.look (α := List (Nat × Hint)) [] f).bind fun l => Ab.look l r
theorem packet_PutMsg_ev (k : Nat) (x : (List.foldr Ty.cons .nil [(.cons (.int .i64) (.cons (.int .i64) (.cons (.int .i64) (.cons (.int .i64) (.cons (.int .i64) (.cons (.int .i64) (.cons (.int .i64) (.cons (.sl .str) .nil))))))))]).den) : evTop Go.Proofs.Try.prog packet_PutMsg_g packet_PutMsg_h 20 k 32 (argAVs [(.cons (.int .i64) (.cons (.int .i64) (.cons (.int .i64) (.cons (.int .i64) (.cons (.int .i64) (.cons (.int .i64) (.cons (.int .i64) (.cons (.sl .str) .nil))))))))] x) [.str, (.int .i64)] = packet_PutMsg k x.1 := by kernel_rfl
theorem packet_PutMsg_ok (k : Nat) : FnOk Go.Proofs.Try.prog 32 (packet_PutMsg_sig k) := fn_ok' (Γ := packet_PutMsg_g) (H := packet_PutMsg_h) (fun k => (.cons (packet_Is_ok k) (.cons (packet_numbers_ok k) (.cons (packet_put_ok k) GOk.nil)))) (by kernel_rfl) (by kernel_rfl) (packet_PutMsg_ev k)
end Go.Proofs.Ytoeikeabbdnkbaa.A
