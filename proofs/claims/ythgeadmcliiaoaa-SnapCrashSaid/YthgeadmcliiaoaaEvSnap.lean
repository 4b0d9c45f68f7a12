/- PRINTED BY resid.py (ours): each function's calls come to what is printed of it. -/
import Derived.Test.YthgeadmcliiaoaaFnSnap
import Derived.Test.YthgeadmcliiaoaaAbG
import Derived.Test.YthgeadmcliiaoaaProg
import Derived.Test.YthgeadmcliiaoaaAHPic
import Derived.Test.YthgeadmcliiaoaaAHJoin
import Derived.Test.YthgeadmcliiaoaaAHSum
import Derived.Test.YthgeadmcliiaoaaAHClone
import Derived.Test.YthgeadmcliiaoaaEvFrameP
namespace Go.Proofs.Ythgeadmcliiaoaa.A
open Go Go.Proofs.Ythgeadmcliiaoaa.Ab
set_option linter.unusedVariables false
set_option maxRecDepth 100000
def ref12_Big_sig (k : Nat) : Sig := ⟨[(.cons (.int .i64) (.cons .str (.cons .str .nil)))], [.bool], fun x => ref12_Big k x.1⟩
def ref12_Big_g (k : Nat) : FuncId → Option Sig := Ab.look []
def ref12_Big_h (f r : Nat) : Option Hint := (Ab.look (α := List (Nat × Hint)) [] f).bind fun l => Ab.look l r
theorem ref12_Big_ev (k : Nat) (x : (List.foldr Ty.cons .nil [(.cons (.int .i64) (.cons .str (.cons .str .nil)))]).den) : evTop Go.Proofs.Try.prog ref12_Big_g ref12_Big_h 20 k 68 (argAVs [(.cons (.int .i64) (.cons .str (.cons .str .nil)))] x) [.bool] = ref12_Big k x.1 := by kernel_rfl
theorem ref12_Big_ok (k : Nat) : FnOk Go.Proofs.Try.prog 68 (ref12_Big_sig k) := fn_ok' (Γ := ref12_Big_g) (H := ref12_Big_h) (fun k => GOk.nil) (by kernel_rfl) (by kernel_rfl) (ref12_Big_ev k)
def ref16_Big_sig (k : Nat) : Sig := ⟨[(.cons (.int .i64) (.cons .str (.cons .str (.cons (.int .i64) (.cons .str (.cons .str .nil))))))], [.bool], fun x => ref16_Big k x.1⟩
def ref16_Big_g (k : Nat) : FuncId → Option Sig := Ab.look [(68, ref12_Big_sig k)]
def ref16_Big_h (f r : Nat) : Option Hint := (Ab.look (α := List (Nat × Hint)) [] f).bind fun l => Ab.look l r
theorem ref16_Big_ev (k : Nat) (x : (List.foldr Ty.cons .nil [(.cons (.int .i64) (.cons .str (.cons .str (.cons (.int .i64) (.cons .str (.cons .str .nil))))))]).den) : evTop Go.Proofs.Try.prog ref16_Big_g ref16_Big_h 20 k 29 (argAVs [(.cons (.int .i64) (.cons .str (.cons .str (.cons (.int .i64) (.cons .str (.cons .str .nil))))))] x) [.bool] = ref16_Big k x.1 := by kernel_rfl
theorem ref16_Big_ok (k : Nat) : FnOk Go.Proofs.Try.prog 29 (ref16_Big_sig k) := fn_ok' (Γ := ref16_Big_g) (H := ref16_Big_h) (fun k => (.cons (ref12_Big_ok k) GOk.nil)) (by kernel_rfl) (by kernel_rfl) (ref16_Big_ev k)
def law16_far_sig (k : Nat) : Sig := ⟨[(.cons (.int .i64) (.cons .str (.cons .str (.cons (.int .i64) (.cons .str (.cons .str .nil)))))), (.sl .str)], [.bool], fun x => law16_far k x.1 x.2.1⟩
def law16_far_g (k : Nat) : FuncId → Option Sig := Ab.look [(29, ref16_Big_sig k)]
def law16_far_h (f r : Nat) : Option Hint := (Ab.look (α := List (Nat × Hint)) [(10, [(2, ⟨[.tmp 4 .bool, .tmp 5 (.int .i64)], [6, 7, 8, 9, 10, 11, 12, 13, 14, 17, 18, 19, 20, 21, 22, 15, 16]⟩)])] f).bind fun l => Ab.look l r
theorem law16_far_ev (k : Nat) (x : (List.foldr Ty.cons .nil [(.cons (.int .i64) (.cons .str (.cons .str (.cons (.int .i64) (.cons .str (.cons .str .nil)))))), (.sl .str)]).den) : evTop Go.Proofs.Try.prog law16_far_g law16_far_h 20 k 10 (argAVs [(.cons (.int .i64) (.cons .str (.cons .str (.cons (.int .i64) (.cons .str (.cons .str .nil)))))), (.sl .str)] x) [.bool] = law16_far k x.1 x.2.1 := by kernel_rfl
theorem law16_far_ok (k : Nat) : FnOk Go.Proofs.Try.prog 10 (law16_far_sig k) := fn_ok' (Γ := law16_far_g) (H := law16_far_h) (fun k => (.cons (ref16_Big_ok k) GOk.nil)) (by kernel_rfl) (by kernel_rfl) (law16_far_ev k)
def file_bytes_all_sig (k : Nat) : Sig := ⟨[(.cons (.int .i64) (.cons .str (.cons .str .nil)))], [.str], fun x => file_bytes_all k x.1⟩
def file_bytes_all_g (k : Nat) : FuncId → Option Sig := Ab.look []
def file_bytes_all_h (f r : Nat) : Option Hint := (Ab.look (α := List (Nat × Hint)) [] f).bind fun l => Ab.look l r
theorem file_bytes_all_ev (k : Nat) (x : (List.foldr Ty.cons .nil [(.cons (.int .i64) (.cons .str (.cons .str .nil)))]).den) : evTop Go.Proofs.Try.prog file_bytes_all_g file_bytes_all_h 20 k 77 (argAVs [(.cons (.int .i64) (.cons .str (.cons .str .nil)))] x) [.str] = file_bytes_all k x.1 := by kernel_rfl
theorem file_bytes_all_ok (k : Nat) : FnOk Go.Proofs.Try.prog 77 (file_bytes_all_sig k) := fn_ok' (Γ := file_bytes_all_g) (H := file_bytes_all_h) (fun k => GOk.nil) (by kernel_rfl) (by kernel_rfl) (file_bytes_all_ev k)
def file_bytes_may_sig (k : Nat) : Sig := ⟨[(.cons (.int .i64) (.cons .str (.cons .str .nil)))], [.bool], fun x => file_bytes_may k x.1⟩
def file_bytes_may_g (k : Nat) : FuncId → Option Sig := Ab.look [(77, file_bytes_all_sig k)]
def file_bytes_may_h (f r : Nat) : Option Hint := (Ab.look (α := List (Nat × Hint)) [] f).bind fun l => Ab.look l r
theorem file_bytes_may_ev (k : Nat) (x : (List.foldr Ty.cons .nil [(.cons (.int .i64) (.cons .str (.cons .str .nil)))]).den) : evTop Go.Proofs.Try.prog file_bytes_may_g file_bytes_may_h 20 k 75 (argAVs [(.cons (.int .i64) (.cons .str (.cons .str .nil)))] x) [.bool] = file_bytes_may k x.1 := by kernel_rfl
theorem file_bytes_may_ok (k : Nat) : FnOk Go.Proofs.Try.prog 75 (file_bytes_may_sig k) := fn_ok' (Γ := file_bytes_may_g) (H := file_bytes_may_h) (fun k => (.cons (file_bytes_all_ok k) GOk.nil)) (by kernel_rfl) (by kernel_rfl) (file_bytes_may_ev k)
def file_Is_sig (k : Nat) : Sig := ⟨[(.cons (.int .i64) (.cons .str (.cons .str .nil)))], [.bool], fun x => file_Is k x.1⟩
def file_Is_g (k : Nat) : FuncId → Option Sig := Ab.look [(75, file_bytes_may_sig k)]
def file_Is_h (f r : Nat) : Option Hint := (Ab.look (α := List (Nat × Hint)) [] f).bind fun l => Ab.look l r
theorem file_Is_ev (k : Nat) (x : (List.foldr Ty.cons .nil [(.cons (.int .i64) (.cons .str (.cons .str .nil)))]).den) : evTop Go.Proofs.Try.prog file_Is_g file_Is_h 20 k 69 (argAVs [(.cons (.int .i64) (.cons .str (.cons .str .nil)))] x) [.bool] = file_Is k x.1 := by kernel_rfl
theorem file_Is_ok (k : Nat) : FnOk Go.Proofs.Try.prog 69 (file_Is_sig k) := fn_ok' (Γ := file_Is_g) (H := file_Is_h) (fun k => (.cons (file_bytes_may_ok k) GOk.nil)) (by kernel_rfl) (by kernel_rfl) (file_Is_ev k)
def snap_is_sig (k : Nat) : Sig := ⟨[(.cons (.int .i64) (.cons .str (.cons .str (.cons (.int .i64) (.cons .str (.cons .str .nil))))))], [.bool], fun x => snap_is k x.1⟩
def snap_is_g (k : Nat) : FuncId → Option Sig := Ab.look [(69, file_Is_sig k)]
def snap_is_h (f r : Nat) : Option Hint := (Ab.look (α := List (Nat × Hint)) [] f).bind fun l => Ab.look l r
theorem snap_is_ev (k : Nat) (x : (List.foldr Ty.cons .nil [(.cons (.int .i64) (.cons .str (.cons .str (.cons (.int .i64) (.cons .str (.cons .str .nil))))))]).den) : evTop Go.Proofs.Try.prog snap_is_g snap_is_h 20 k 30 (argAVs [(.cons (.int .i64) (.cons .str (.cons .str (.cons (.int .i64) (.cons .str (.cons .str .nil))))))] x) [.bool] = snap_is k x.1 := by kernel_rfl
theorem snap_is_ok (k : Nat) : FnOk Go.Proofs.Try.prog 30 (snap_is_sig k) := fn_ok' (Γ := snap_is_g) (H := snap_is_h) (fun k => (.cons (file_Is_ok k) GOk.nil)) (by kernel_rfl) (by kernel_rfl) (snap_is_ev k)
def file_right_sig (k : Nat) : Sig := ⟨[(.cons (.int .i64) (.cons .str (.cons .str .nil)))], [(.cons (.int .i64) (.cons .str (.cons .str .nil))), (.int .i64)], fun x => file_right k x.1⟩
def file_right_g (k : Nat) : FuncId → Option Sig := Ab.look [(75, file_bytes_may_sig k)]
def file_right_h (f r : Nat) : Option Hint := (Ab.look (α := List (Nat × Hint)) [] f).bind fun l => Ab.look l r
theorem file_right_ev (k : Nat) (x : (List.foldr Ty.cons .nil [(.cons (.int .i64) (.cons .str (.cons .str .nil)))]).den) : evTop Go.Proofs.Try.prog file_right_g file_right_h 20 k 73 (argAVs [(.cons (.int .i64) (.cons .str (.cons .str .nil)))] x) [(.cons (.int .i64) (.cons .str (.cons .str .nil))), (.int .i64)] = file_right k x.1 := by kernel_rfl
theorem file_right_ok (k : Nat) : FnOk Go.Proofs.Try.prog 73 (file_right_sig k) := fn_ok' (Γ := file_right_g) (H := file_right_h) (fun k => (.cons (file_bytes_may_ok k) GOk.nil)) (by kernel_rfl) (by kernel_rfl) (file_right_ev k)
def file_bytes_kept_sig (k : Nat) : Sig := ⟨[(.cons (.int .i64) (.cons .str (.cons .str .nil))), (.int .i64)], [(.cons (.int .i64) (.cons .str (.cons .str .nil)))], fun x => file_bytes_kept k x.1 x.2.1⟩
def file_bytes_kept_g (k : Nat) : FuncId → Option Sig := Ab.look [(77, file_bytes_all_sig k)]
def file_bytes_kept_h (f r : Nat) : Option Hint := (Ab.look (α := List (Nat × Hint)) [] f).bind fun l => Ab.look l r
theorem file_bytes_kept_ev (k : Nat) (x : (List.foldr Ty.cons .nil [(.cons (.int .i64) (.cons .str (.cons .str .nil))), (.int .i64)]).den) : evTop Go.Proofs.Try.prog file_bytes_kept_g file_bytes_kept_h 20 k 76 (argAVs [(.cons (.int .i64) (.cons .str (.cons .str .nil))), (.int .i64)] x) [(.cons (.int .i64) (.cons .str (.cons .str .nil)))] = file_bytes_kept k x.1 x.2.1 := by kernel_rfl
theorem file_bytes_kept_ok (k : Nat) : FnOk Go.Proofs.Try.prog 76 (file_bytes_kept_sig k) := fn_ok' (Γ := file_bytes_kept_g) (H := file_bytes_kept_h) (fun k => (.cons (file_bytes_all_ok k) GOk.nil)) (by kernel_rfl) (by kernel_rfl) (file_bytes_kept_ev k)
def file_Sync_sig (k : Nat) : Sig := ⟨[(.cons (.int .i64) (.cons .str (.cons .str .nil)))], [(.cons (.int .i64) (.cons .str (.cons .str .nil))), (.int .i64)], fun x => file_Sync k x.1⟩
def file_Sync_g (k : Nat) : FuncId → Option Sig := Ab.look [(73, file_right_sig k), (77, file_bytes_all_sig k), (76, file_bytes_kept_sig k)]
def file_Sync_h (f r : Nat) : Option Hint := (Ab.look (α := List (Nat × Hint)) [] f).bind fun l => Ab.look l r
theorem file_Sync_ev (k : Nat) (x : (List.foldr Ty.cons .nil [(.cons (.int .i64) (.cons .str (.cons .str .nil)))]).den) : evTop Go.Proofs.Try.prog file_Sync_g file_Sync_h 20 k 35 (argAVs [(.cons (.int .i64) (.cons .str (.cons .str .nil)))] x) [(.cons (.int .i64) (.cons .str (.cons .str .nil))), (.int .i64)] = file_Sync k x.1 := by kernel_rfl
theorem file_Sync_ok (k : Nat) : FnOk Go.Proofs.Try.prog 35 (file_Sync_sig k) := fn_ok' (Γ := file_Sync_g) (H := file_Sync_h) (fun k => (.cons (file_right_ok k) (.cons (file_bytes_all_ok k) (.cons (file_bytes_kept_ok k) GOk.nil)))) (by kernel_rfl) (by kernel_rfl) (file_Sync_ev k)
def snap_Save_2_sig (k : Nat) : Sig := ⟨[(.cons (.int .i64) (.cons .str (.cons .str (.cons (.int .i64) (.cons .str (.cons .str .nil))))))], [(.cons (.int .i64) (.cons .str (.cons .str (.cons (.int .i64) (.cons .str (.cons .str .nil)))))), (.int .i64)], fun x => snap_Save_2 k x.1⟩
def snap_Save_2_g (k : Nat) : FuncId → Option Sig := Ab.look [(35, file_Sync_sig k)]
def snap_Save_2_h (f r : Nat) : Option Hint := (Ab.look (α := List (Nat × Hint)) [] f).bind fun l => Ab.look l r
theorem snap_Save_2_ev (k : Nat) (x : (List.foldr Ty.cons .nil [(.cons (.int .i64) (.cons .str (.cons .str (.cons (.int .i64) (.cons .str (.cons .str .nil))))))]).den) : evTop Go.Proofs.Try.prog snap_Save_2_g snap_Save_2_h 20 k 34 (argAVs [(.cons (.int .i64) (.cons .str (.cons .str (.cons (.int .i64) (.cons .str (.cons .str .nil))))))] x) [(.cons (.int .i64) (.cons .str (.cons .str (.cons (.int .i64) (.cons .str (.cons .str .nil)))))), (.int .i64)] = snap_Save_2 k x.1 := by kernel_rfl
theorem snap_Save_2_ok (k : Nat) : FnOk Go.Proofs.Try.prog 34 (snap_Save_2_sig k) := fn_ok' (Γ := snap_Save_2_g) (H := snap_Save_2_h) (fun k => (.cons (file_Sync_ok k) GOk.nil)) (by kernel_rfl) (by kernel_rfl) (snap_Save_2_ev k)
def file_Add_sig (k : Nat) : Sig := ⟨[(.cons (.int .i64) (.cons .str (.cons .str .nil))), (.sl .str)], [(.cons (.int .i64) (.cons .str (.cons .str .nil))), (.int .i64)], fun x => file_Add k x.1 x.2.1⟩
def file_Add_g (k : Nat) : FuncId → Option Sig := Ab.look [(73, file_right_sig k), (74, strings_Join_sig k), (75, file_bytes_may_sig k)]
def file_Add_h (f r : Nat) : Option Hint := (Ab.look (α := List (Nat × Hint)) [] f).bind fun l => Ab.look l r
theorem file_Add_ev (k : Nat) (x : (List.foldr Ty.cons .nil [(.cons (.int .i64) (.cons .str (.cons .str .nil))), (.sl .str)]).den) : evTop Go.Proofs.Try.prog file_Add_g file_Add_h 20 k 33 (argAVs [(.cons (.int .i64) (.cons .str (.cons .str .nil))), (.sl .str)] x) [(.cons (.int .i64) (.cons .str (.cons .str .nil))), (.int .i64)] = file_Add k x.1 x.2.1 := by kernel_rfl
theorem file_Add_ok (k : Nat) : FnOk Go.Proofs.Try.prog 33 (file_Add_sig k) := fn_ok' (Γ := file_Add_g) (H := file_Add_h) (fun k => (.cons (file_right_ok k) (.cons (strings_Join_ok k) (.cons (file_bytes_may_ok k) GOk.nil)))) (by kernel_rfl) (by kernel_rfl) (file_Add_ev k)
def snap_Save_sig (k : Nat) : Sig := ⟨[(.cons (.int .i64) (.cons .str (.cons .str (.cons (.int .i64) (.cons .str (.cons .str .nil)))))), (.int .i64), (.sl .str), (.int .i64)], [(.cons (.int .i64) (.cons .str (.cons .str (.cons (.int .i64) (.cons .str (.cons .str .nil)))))), .bool, (.int .i64)], fun x => snap_Save k x.1 x.2.1 x.2.2.1 x.2.2.2.1⟩
def snap_Save_g (k : Nat) : FuncId → Option Sig := Ab.look [(30, snap_is_sig k), (31, snap_picture_sig k), (34, snap_Save_2_sig k), (33, file_Add_sig k)]
def snap_Save_h (f r : Nat) : Option Hint := (Ab.look (α := List (Nat × Hint)) [(37, [(4, ⟨[.tmp 7 .bool, .tmp 8 (.int .i64), .tmp 27 (.int .i64), .box 6 (.cons (.int .i64) (.cons .str (.cons .str (.cons (.int .i64) (.cons .str (.cons .str .nil)))))), .box 3 (.cons (.int .i64) (.cons .str (.cons .str (.cons (.int .i64) (.cons .str (.cons .str .nil))))))], [28, 29, 30, 10, 32, 33, 34, 31, 35, 36, 11, 12, 37, 38, 39, 40, 41, 42]⟩)])] f).bind fun l => Ab.look l r
theorem snap_Save_ev (k : Nat) (x : (List.foldr Ty.cons .nil [(.cons (.int .i64) (.cons .str (.cons .str (.cons (.int .i64) (.cons .str (.cons .str .nil)))))), (.int .i64), (.sl .str), (.int .i64)]).den) : evTop Go.Proofs.Try.prog snap_Save_g snap_Save_h 20 k 11 (argAVs [(.cons (.int .i64) (.cons .str (.cons .str (.cons (.int .i64) (.cons .str (.cons .str .nil)))))), (.int .i64), (.sl .str), (.int .i64)] x) [(.cons (.int .i64) (.cons .str (.cons .str (.cons (.int .i64) (.cons .str (.cons .str .nil)))))), .bool, (.int .i64)] = snap_Save k x.1 x.2.1 x.2.2.1 x.2.2.2.1 := by kernel_rfl
theorem snap_Save_ok (k : Nat) : FnOk Go.Proofs.Try.prog 11 (snap_Save_sig k) := fn_ok' (Γ := snap_Save_g) (H := snap_Save_h) (fun k => (.cons (snap_is_ok k) (.cons (snap_picture_ok k) (.cons (snap_Save_2_ok k) (.cons (file_Add_ok k) GOk.nil))))) (by kernel_rfl) (by kernel_rfl) (snap_Save_ev k)
def file_New_sig (k : Nat) : Sig := ⟨[(.int .i64)], [(.cons (.int .i64) (.cons .str (.cons .str .nil))), (.int .i64)], fun x => file_New k x.1⟩
def file_New_g (k : Nat) : FuncId → Option Sig := Ab.look []
def file_New_h (f r : Nat) : Option Hint := (Ab.look (α := List (Nat × Hint)) [] f).bind fun l => Ab.look l r
theorem file_New_ev (k : Nat) (x : (List.foldr Ty.cons .nil [(.int .i64)]).den) : evTop Go.Proofs.Try.prog file_New_g file_New_h 20 k 49 (argAVs [(.int .i64)] x) [(.cons (.int .i64) (.cons .str (.cons .str .nil))), (.int .i64)] = file_New k x.1 := by kernel_rfl
theorem file_New_ok (k : Nat) : FnOk Go.Proofs.Try.prog 49 (file_New_sig k) := fn_ok' (Γ := file_New_g) (H := file_New_h) (fun k => GOk.nil) (by kernel_rfl) (by kernel_rfl) (file_New_ev k)
def snap_New_sig (k : Nat) : Sig := ⟨[(.int .i64)], [(.cons (.int .i64) (.cons .str (.cons .str (.cons (.int .i64) (.cons .str (.cons .str .nil)))))), (.int .i64)], fun x => snap_New k x.1⟩
def snap_New_g (k : Nat) : FuncId → Option Sig := Ab.look [(49, file_New_sig k)]
def snap_New_h (f r : Nat) : Option Hint := (Ab.look (α := List (Nat × Hint)) [] f).bind fun l => Ab.look l r
theorem snap_New_ev (k : Nat) (x : (List.foldr Ty.cons .nil [(.int .i64)]).den) : evTop Go.Proofs.Try.prog snap_New_g snap_New_h 20 k 20 (argAVs [(.int .i64)] x) [(.cons (.int .i64) (.cons .str (.cons .str (.cons (.int .i64) (.cons .str (.cons .str .nil)))))), (.int .i64)] = snap_New k x.1 := by kernel_rfl
theorem snap_New_ok (k : Nat) : FnOk Go.Proofs.Try.prog 20 (snap_New_sig k) := fn_ok' (Γ := snap_New_g) (H := snap_New_h) (fun k => (.cons (file_New_ok k) GOk.nil)) (by kernel_rfl) (by kernel_rfl) (snap_New_ev k)
def file_Read_sig (k : Nat) : Sig := ⟨[(.cons (.int .i64) (.cons .str (.cons .str .nil)))], [.str], fun x => file_Read k x.1⟩
def file_Read_g (k : Nat) : FuncId → Option Sig := Ab.look [(77, file_bytes_all_sig k)]
def file_Read_h (f r : Nat) : Option Hint := (Ab.look (α := List (Nat × Hint)) [] f).bind fun l => Ab.look l r
theorem file_Read_ev (k : Nat) (x : (List.foldr Ty.cons .nil [(.cons (.int .i64) (.cons .str (.cons .str .nil)))]).den) : evTop Go.Proofs.Try.prog file_Read_g file_Read_h 20 k 39 (argAVs [(.cons (.int .i64) (.cons .str (.cons .str .nil)))] x) [.str] = file_Read k x.1 := by kernel_rfl
theorem file_Read_ok (k : Nat) : FnOk Go.Proofs.Try.prog 39 (file_Read_sig k) := fn_ok' (Γ := file_Read_g) (H := file_Read_h) (fun k => (.cons (file_bytes_all_ok k) GOk.nil)) (by kernel_rfl) (by kernel_rfl) (file_Read_ev k)
def wire_GetInt_sig (k : Nat) : Sig := ⟨[.str], [(.int .i64), .str, (.int .i64)], fun x => wire_GetInt k x.1⟩
def wire_GetInt_g (k : Nat) : FuncId → Option Sig := Ab.look []
def wire_GetInt_h (f r : Nat) : Option Hint := (Ab.look (α := List (Nat × Hint)) [(40, [(3, ⟨[.tmp 5 (.int .i64), .tmp 11 (.int .i64)], [12, 13, 6, 14, 15, 16, 17, 18, 19]⟩), (14, ⟨[.tmp 2 (.int .i64), .tmp 3 .str, .tmp 4 (.int .i64), .tmp 7 (.int .i64), .tmp 8 (.int .i64)], [28, 29, 32, 33, 34, 35, 36, 37, 38, 39, 40, 41, 42, 43, 44, 45, 46, 47, 48, 49, 50, 51, 52, 53, 54, 30, 31]⟩)])] f).bind fun l => Ab.look l r
theorem wire_GetInt_ev (k : Nat) (x : (List.foldr Ty.cons .nil [.str]).den) : evTop Go.Proofs.Try.prog wire_GetInt_g wire_GetInt_h 20 k 40 (argAVs [.str] x) [(.int .i64), .str, (.int .i64)] = wire_GetInt k x.1 := by kernel_rfl
theorem wire_GetInt_ok (k : Nat) : FnOk Go.Proofs.Try.prog 40 (wire_GetInt_sig k) := fn_ok' (Γ := wire_GetInt_g) (H := wire_GetInt_h) (fun k => GOk.nil) (by kernel_rfl) (by kernel_rfl) (wire_GetInt_ev k)
def wire_GetText_sig (k : Nat) : Sig := ⟨[.str], [.str, .str, (.int .i64)], fun x => wire_GetText k x.1⟩
def wire_GetText_g (k : Nat) : FuncId → Option Sig := Ab.look [(40, wire_GetInt_sig k)]
def wire_GetText_h (f r : Nat) : Option Hint := (Ab.look (α := List (Nat × Hint)) [] f).bind fun l => Ab.look l r
theorem wire_GetText_ev (k : Nat) (x : (List.foldr Ty.cons .nil [.str]).den) : evTop Go.Proofs.Try.prog wire_GetText_g wire_GetText_h 20 k 111 (argAVs [.str] x) [.str, .str, (.int .i64)] = wire_GetText k x.1 := by kernel_rfl
theorem wire_GetText_ok (k : Nat) : FnOk Go.Proofs.Try.prog 111 (wire_GetText_sig k) := fn_ok' (Γ := wire_GetText_g) (H := wire_GetText_h) (fun k => (.cons (wire_GetInt_ok k) GOk.nil)) (by kernel_rfl) (by kernel_rfl) (wire_GetText_ev k)
def frame_Get_sig (k : Nat) : Sig := ⟨[.str], [(.int .i64), .str, .str, (.int .i64)], fun x => frame_Get k x.1⟩
def frame_Get_g (k : Nat) : FuncId → Option Sig := Ab.look [(108, sum_Of_sig k), (40, wire_GetInt_sig k), (111, wire_GetText_sig k)]
def frame_Get_h (f r : Nat) : Option Hint := (Ab.look (α := List (Nat × Hint)) [] f).bind fun l => Ab.look l r
theorem frame_Get_ev (k : Nat) (x : (List.foldr Ty.cons .nil [.str]).den) : evTop Go.Proofs.Try.prog frame_Get_g frame_Get_h 20 k 78 (argAVs [.str] x) [(.int .i64), .str, .str, (.int .i64)] = frame_Get k x.1 := by kernel_rfl
theorem frame_Get_ok (k : Nat) : FnOk Go.Proofs.Try.prog 78 (frame_Get_sig k) := fn_ok' (Γ := frame_Get_g) (H := frame_Get_h) (fun k => (.cons (sum_Of_ok k) (.cons (wire_GetInt_ok k) (.cons (wire_GetText_ok k) GOk.nil)))) (by kernel_rfl) (by kernel_rfl) (frame_Get_ev k)
def frame_GetRow_sig (k : Nat) : Sig := ⟨[.str], [(.int .i64), (.sl .str), .str, (.int .i64)], fun x => frame_GetRow k x.1⟩
def frame_GetRow_g (k : Nat) : FuncId → Option Sig := Ab.look [(78, frame_Get_sig k), (40, wire_GetInt_sig k), (111, wire_GetText_sig k)]
def frame_GetRow_h (f r : Nat) : Option Hint := (Ab.look (α := List (Nat × Hint)) [(38, [(10, ⟨[.row 14 9 .str, .tmp 42 (.int .i64), .box 1000011 (.int .i64), .box 2000011 .str], [43, 44, 45, 46, 47, 48, 49]⟩)])] f).bind fun l => Ab.look l r
theorem frame_GetRow_ev (k : Nat) (x : (List.foldr Ty.cons .nil [.str]).den) : evTop Go.Proofs.Try.prog frame_GetRow_g frame_GetRow_h 20 k 38 (argAVs [.str] x) [(.int .i64), (.sl .str), .str, (.int .i64)] = frame_GetRow k x.1 := by kernel_rfl
theorem frame_GetRow_ok (k : Nat) : FnOk Go.Proofs.Try.prog 38 (frame_GetRow_sig k) := fn_ok' (Γ := frame_GetRow_g) (H := frame_GetRow_h) (fun k => (.cons (frame_Get_ok k) (.cons (wire_GetInt_ok k) (.cons (wire_GetText_ok k) GOk.nil)))) (by kernel_rfl) (by kernel_rfl) (frame_GetRow_ev k)
def snap_Load_sig (k : Nat) : Sig := ⟨[(.cons (.int .i64) (.cons .str (.cons .str (.cons (.int .i64) (.cons .str (.cons .str .nil))))))], [(.int .i64), (.sl .str), .bool, (.int .i64)], fun x => snap_Load k x.1⟩
def snap_Load_g (k : Nat) : FuncId → Option Sig := Ab.look [(30, snap_is_sig k), (39, file_Read_sig k), (38, frame_GetRow_sig k), (40, wire_GetInt_sig k), (41, slices_Clone_string_string_sig k)]
def snap_Load_h (f r : Nat) : Option Hint := (Ab.look (α := List (Nat × Hint)) [] f).bind fun l => Ab.look l r
theorem snap_Load_ev (k : Nat) (x : (List.foldr Ty.cons .nil [(.cons (.int .i64) (.cons .str (.cons .str (.cons (.int .i64) (.cons .str (.cons .str .nil))))))]).den) : evTop Go.Proofs.Try.prog snap_Load_g snap_Load_h 20 k 13 (argAVs [(.cons (.int .i64) (.cons .str (.cons .str (.cons (.int .i64) (.cons .str (.cons .str .nil))))))] x) [(.int .i64), (.sl .str), .bool, (.int .i64)] = snap_Load k x.1 := by kernel_rfl
theorem snap_Load_ok (k : Nat) : FnOk Go.Proofs.Try.prog 13 (snap_Load_sig k) := fn_ok' (Γ := snap_Load_g) (H := snap_Load_h) (fun k => (.cons (snap_is_ok k) (.cons (file_Read_ok k) (.cons (frame_GetRow_ok k) (.cons (wire_GetInt_ok k) (.cons (slices_Clone_string_string_ok k) GOk.nil)))))) (by kernel_rfl) (by kernel_rfl) (snap_Load_ev k)
def ref01_Texts_sig (k : Nat) : Sig := ⟨[(.sl .str), (.sl .str)], [.bool], fun x => ref01_Texts k x.1 x.2.1⟩
def ref01_Texts_g (k : Nat) : FuncId → Option Sig := Ab.look []
def ref01_Texts_h (f r : Nat) : Option Hint := (Ab.look (α := List (Nat × Hint)) [(14, [(4, ⟨[.tmp 4 .bool, .tmp 5 (.int .i64)], [11, 12, 13, 14, 17, 18, 19, 20, 21, 22, 23, 24, 25, 15, 16]⟩)])] f).bind fun l => Ab.look l r
theorem ref01_Texts_ev (k : Nat) (x : (List.foldr Ty.cons .nil [(.sl .str), (.sl .str)]).den) : evTop Go.Proofs.Try.prog ref01_Texts_g ref01_Texts_h 20 k 14 (argAVs [(.sl .str), (.sl .str)] x) [.bool] = ref01_Texts k x.1 x.2.1 := by kernel_rfl
theorem ref01_Texts_ok (k : Nat) : FnOk Go.Proofs.Try.prog 14 (ref01_Texts_sig k) := fn_ok' (Γ := ref01_Texts_g) (H := ref01_Texts_h) (fun k => GOk.nil) (by kernel_rfl) (by kernel_rfl) (ref01_Texts_ev k)
def law16_snapped_sig (k : Nat) : Sig := ⟨[], [.bool], fun x => law16_snapped k⟩
def law16_snapped_g (k : Nat) : FuncId → Option Sig := Ab.look [(20, snap_New_sig k), (13, snap_Load_sig k), (11, snap_Save_sig k), (14, ref01_Texts_sig k)]
def law16_snapped_h (f r : Nat) : Option Hint := (Ab.look (α := List (Nat × Hint)) [] f).bind fun l => Ab.look l r
theorem law16_snapped_ev (k : Nat) (x : (List.foldr Ty.cons .nil []).den) : evTop Go.Proofs.Try.prog law16_snapped_g law16_snapped_h 20 k 12 (argAVs [] x) [.bool] = law16_snapped k := by kernel_rfl
theorem law16_snapped_ok (k : Nat) : FnOk Go.Proofs.Try.prog 12 (law16_snapped_sig k) := fn_ok' (Γ := law16_snapped_g) (H := law16_snapped_h) (fun k => (.cons (snap_New_ok k) (.cons (snap_Load_ok k) (.cons (snap_Save_ok k) (.cons (ref01_Texts_ok k) GOk.nil))))) (by kernel_rfl) (by kernel_rfl) (law16_snapped_ev k)
def law16_SnapBack_sig (k : Nat) : Sig := ⟨[(.cons (.int .i64) (.cons .str (.cons .str (.cons (.int .i64) (.cons .str (.cons .str .nil)))))), (.int .i64), (.sl .str)], [.bool], fun x => law16_SnapBack k x.1 x.2.1 x.2.2.1⟩
def law16_SnapBack_g (k : Nat) : FuncId → Option Sig := Ab.look [(10, law16_far_sig k), (11, snap_Save_sig k), (12, law16_snapped_sig k), (13, snap_Load_sig k), (14, ref01_Texts_sig k)]
def law16_SnapBack_h (f r : Nat) : Option Hint := (Ab.look (α := List (Nat × Hint)) [] f).bind fun l => Ab.look l r
theorem law16_SnapBack_ev (k : Nat) (x : (List.foldr Ty.cons .nil [(.cons (.int .i64) (.cons .str (.cons .str (.cons (.int .i64) (.cons .str (.cons .str .nil)))))), (.int .i64), (.sl .str)]).den) : evTop Go.Proofs.Try.prog law16_SnapBack_g law16_SnapBack_h 20 k 3 (argAVs [(.cons (.int .i64) (.cons .str (.cons .str (.cons (.int .i64) (.cons .str (.cons .str .nil)))))), (.int .i64), (.sl .str)] x) [.bool] = law16_SnapBack k x.1 x.2.1 x.2.2.1 := by kernel_rfl
theorem law16_SnapBack_ok (k : Nat) : FnOk Go.Proofs.Try.prog 3 (law16_SnapBack_sig k) := fn_ok' (Γ := law16_SnapBack_g) (H := law16_SnapBack_h) (fun k => (.cons (law16_far_ok k) (.cons (snap_Save_ok k) (.cons (law16_snapped_ok k) (.cons (snap_Load_ok k) (.cons (ref01_Texts_ok k) GOk.nil)))))) (by kernel_rfl) (by kernel_rfl) (law16_SnapBack_ev k)
def law16_SnapBefore_sig (k : Nat) : Sig := ⟨[(.cons (.int .i64) (.cons .str (.cons .str (.cons (.int .i64) (.cons .str (.cons .str .nil)))))), (.int .i64), (.sl .str), (.int .i64)], [.bool], fun x => law16_SnapBefore k x.1 x.2.1 x.2.2.1 x.2.2.2.1⟩
def law16_SnapBefore_g (k : Nat) : FuncId → Option Sig := Ab.look [(10, law16_far_sig k), (12, law16_snapped_sig k), (13, snap_Load_sig k), (11, snap_Save_sig k), (14, ref01_Texts_sig k)]
def law16_SnapBefore_h (f r : Nat) : Option Hint := (Ab.look (α := List (Nat × Hint)) [] f).bind fun l => Ab.look l r
theorem law16_SnapBefore_ev (k : Nat) (x : (List.foldr Ty.cons .nil [(.cons (.int .i64) (.cons .str (.cons .str (.cons (.int .i64) (.cons .str (.cons .str .nil)))))), (.int .i64), (.sl .str), (.int .i64)]).den) : evTop Go.Proofs.Try.prog law16_SnapBefore_g law16_SnapBefore_h 20 k 4 (argAVs [(.cons (.int .i64) (.cons .str (.cons .str (.cons (.int .i64) (.cons .str (.cons .str .nil)))))), (.int .i64), (.sl .str), (.int .i64)] x) [.bool] = law16_SnapBefore k x.1 x.2.1 x.2.2.1 x.2.2.2.1 := by kernel_rfl
theorem law16_SnapBefore_ok (k : Nat) : FnOk Go.Proofs.Try.prog 4 (law16_SnapBefore_sig k) := fn_ok' (Γ := law16_SnapBefore_g) (H := law16_SnapBefore_h) (fun k => (.cons (law16_far_ok k) (.cons (law16_snapped_ok k) (.cons (snap_Load_ok k) (.cons (snap_Save_ok k) (.cons (ref01_Texts_ok k) GOk.nil)))))) (by kernel_rfl) (by kernel_rfl) (law16_SnapBefore_ev k)
def ref01_OwnTexts_sig (k : Nat) : Sig := ⟨[(.sl .str)], [(.sl .str)], fun x => ref01_OwnTexts k x.1⟩
def ref01_OwnTexts_g (k : Nat) : FuncId → Option Sig := Ab.look []
def ref01_OwnTexts_h (f r : Nat) : Option Hint := (Ab.look (α := List (Nat × Hint)) [] f).bind fun l => Ab.look l r
theorem ref01_OwnTexts_ev (k : Nat) (x : (List.foldr Ty.cons .nil [(.sl .str)]).den) : evTop Go.Proofs.Try.prog ref01_OwnTexts_g ref01_OwnTexts_h 20 k 15 (argAVs [(.sl .str)] x) [(.sl .str)] = ref01_OwnTexts k x.1 := by kernel_rfl
theorem ref01_OwnTexts_ok (k : Nat) : FnOk Go.Proofs.Try.prog 15 (ref01_OwnTexts_sig k) := fn_ok' (Γ := ref01_OwnTexts_g) (H := ref01_OwnTexts_h) (fun k => GOk.nil) (by kernel_rfl) (by kernel_rfl) (ref01_OwnTexts_ev k)
def ref12_Is_sig (k : Nat) : Sig := ⟨[(.cons (.int .i64) (.cons .str (.cons .str .nil)))], [.bool], fun x => ref12_Is k x.1⟩
def ref12_Is_g (k : Nat) : FuncId → Option Sig := Ab.look []
def ref12_Is_h (f r : Nat) : Option Hint := (Ab.look (α := List (Nat × Hint)) [] f).bind fun l => Ab.look l r
theorem ref12_Is_ev (k : Nat) (x : (List.foldr Ty.cons .nil [(.cons (.int .i64) (.cons .str (.cons .str .nil)))]).den) : evTop Go.Proofs.Try.prog ref12_Is_g ref12_Is_h 20 k 80 (argAVs [(.cons (.int .i64) (.cons .str (.cons .str .nil)))] x) [.bool] = ref12_Is k x.1 := by kernel_rfl
theorem ref12_Is_ok (k : Nat) : FnOk Go.Proofs.Try.prog 80 (ref12_Is_sig k) := fn_ok' (Γ := ref12_Is_g) (H := ref12_Is_h) (fun k => GOk.nil) (by kernel_rfl) (by kernel_rfl) (ref12_Is_ev k)
def ref16_Is_sig (k : Nat) : Sig := ⟨[(.cons (.int .i64) (.cons .str (.cons .str (.cons (.int .i64) (.cons .str (.cons .str .nil))))))], [.bool], fun x => ref16_Is k x.1⟩
def ref16_Is_g (k : Nat) : FuncId → Option Sig := Ab.look [(80, ref12_Is_sig k)]
def ref16_Is_h (f r : Nat) : Option Hint := (Ab.look (α := List (Nat × Hint)) [] f).bind fun l => Ab.look l r
theorem ref16_Is_ev (k : Nat) (x : (List.foldr Ty.cons .nil [(.cons (.int .i64) (.cons .str (.cons .str (.cons (.int .i64) (.cons .str (.cons .str .nil))))))]).den) : evTop Go.Proofs.Try.prog ref16_Is_g ref16_Is_h 20 k 42 (argAVs [(.cons (.int .i64) (.cons .str (.cons .str (.cons (.int .i64) (.cons .str (.cons .str .nil))))))] x) [.bool] = ref16_Is k x.1 := by kernel_rfl
theorem ref16_Is_ok (k : Nat) : FnOk Go.Proofs.Try.prog 42 (ref16_Is_sig k) := fn_ok' (Γ := ref16_Is_g) (H := ref16_Is_h) (fun k => (.cons (ref12_Is_ok k) GOk.nil)) (by kernel_rfl) (by kernel_rfl) (ref16_Is_ev k)
def ref12_Read_sig (k : Nat) : Sig := ⟨[(.cons (.int .i64) (.cons .str (.cons .str .nil)))], [.str], fun x => ref12_Read k x.1⟩
def ref12_Read_g (k : Nat) : FuncId → Option Sig := Ab.look []
def ref12_Read_h (f r : Nat) : Option Hint := (Ab.look (α := List (Nat × Hint)) [] f).bind fun l => Ab.look l r
theorem ref12_Read_ev (k : Nat) (x : (List.foldr Ty.cons .nil [(.cons (.int .i64) (.cons .str (.cons .str .nil)))]).den) : evTop Go.Proofs.Try.prog ref12_Read_g ref12_Read_h 20 k 44 (argAVs [(.cons (.int .i64) (.cons .str (.cons .str .nil)))] x) [.str] = ref12_Read k x.1 := by kernel_rfl
theorem ref12_Read_ok (k : Nat) : FnOk Go.Proofs.Try.prog 44 (ref12_Read_sig k) := fn_ok' (Γ := ref12_Read_g) (H := ref12_Read_h) (fun k => GOk.nil) (by kernel_rfl) (by kernel_rfl) (ref12_Read_ev k)
def ref01_Int_sig (k : Nat) : Sig := ⟨[(.int .i64)], [.str, (.int .i64)], fun x => ref01_Int k x.1⟩
def ref01_Int_g (k : Nat) : FuncId → Option Sig := Ab.look []
def ref01_Int_h (f r : Nat) : Option Hint := (Ab.look (α := List (Nat × Hint)) [(83, [(8, ⟨[.row 5 5 (.int .u8), .tmp 0 (.int .i64)], [16, 17, 18, 19, 20, 21, 22, 23, 24, 25]⟩)])] f).bind fun l => Ab.look l r
theorem ref01_Int_ev (k : Nat) (x : (List.foldr Ty.cons .nil [(.int .i64)]).den) : evTop Go.Proofs.Try.prog ref01_Int_g ref01_Int_h 20 k 83 (argAVs [(.int .i64)] x) [.str, (.int .i64)] = ref01_Int k x.1 := by kernel_rfl
theorem ref01_Int_ok (k : Nat) : FnOk Go.Proofs.Try.prog 83 (ref01_Int_sig k) := fn_ok' (Γ := ref01_Int_g) (H := ref01_Int_h) (fun k => GOk.nil) (by kernel_rfl) (by kernel_rfl) (ref01_Int_ev k)
def ref01_GetInt_sig (k : Nat) : Sig := ⟨[.str], [(.int .i64), .str, (.int .i64)], fun x => ref01_GetInt k x.1⟩
def ref01_GetInt_g (k : Nat) : FuncId → Option Sig := Ab.look [(83, ref01_Int_sig k)]
def ref01_GetInt_h (f r : Nat) : Option Hint := (Ab.look (α := List (Nat × Hint)) [(45, [(3, ⟨[.tmp 6 .bool, .tmp 5 (.int .i64)], [11, 12, 13, 14, 15, 16, 17, 18, 19, 20, 21, 22, 23, 24, 25, 26, 27, 28, 29]⟩), (12, ⟨[.tmp 7 (.int .i64), .tmp 8 (.int .i64)], [41, 42, 45, 46, 47, 48, 49, 50, 51, 43, 44]⟩)])] f).bind fun l => Ab.look l r
theorem ref01_GetInt_ev (k : Nat) (x : (List.foldr Ty.cons .nil [.str]).den) : evTop Go.Proofs.Try.prog ref01_GetInt_g ref01_GetInt_h 20 k 45 (argAVs [.str] x) [(.int .i64), .str, (.int .i64)] = ref01_GetInt k x.1 := by kernel_rfl
theorem ref01_GetInt_ok (k : Nat) : FnOk Go.Proofs.Try.prog 45 (ref01_GetInt_sig k) := fn_ok' (Γ := ref01_GetInt_g) (H := ref01_GetInt_h) (fun k => (.cons (ref01_Int_ok k) GOk.nil)) (by kernel_rfl) (by kernel_rfl) (ref01_GetInt_ev k)
def ref01_GetText_sig (k : Nat) : Sig := ⟨[.str], [.str, .str, (.int .i64)], fun x => ref01_GetText k x.1⟩
def ref01_GetText_g (k : Nat) : FuncId → Option Sig := Ab.look [(45, ref01_GetInt_sig k)]
def ref01_GetText_h (f r : Nat) : Option Hint := (Ab.look (α := List (Nat × Hint)) [] f).bind fun l => Ab.look l r
theorem ref01_GetText_ev (k : Nat) (x : (List.foldr Ty.cons .nil [.str]).den) : evTop Go.Proofs.Try.prog ref01_GetText_g ref01_GetText_h 20 k 82 (argAVs [.str] x) [.str, .str, (.int .i64)] = ref01_GetText k x.1 := by kernel_rfl
theorem ref01_GetText_ok (k : Nat) : FnOk Go.Proofs.Try.prog 82 (ref01_GetText_sig k) := fn_ok' (Γ := ref01_GetText_g) (H := ref01_GetText_h) (fun k => (.cons (ref01_GetInt_ok k) GOk.nil)) (by kernel_rfl) (by kernel_rfl) (ref01_GetText_ev k)
def ref02_Unlike_sig (k : Nat) : Sig := ⟨[(.int .i64), (.int .i64)], [(.int .i64)], fun x => ref02_Unlike k x.1 x.2.1⟩
def ref02_Unlike_g (k : Nat) : FuncId → Option Sig := Ab.look []
def ref02_Unlike_h (f r : Nat) : Option Hint := (Ab.look (α := List (Nat × Hint)) [(134, [(4, ⟨[.tmp 5 (.int .i64), .tmp 6 (.int .i64), .tmp 7 (.int .i64)], [8, 9, 12, 13, 14, 15, 16, 17, 18, 19, 20, 21, 22, 23, 24, 25, 10, 11]⟩)])] f).bind fun l => Ab.look l r
theorem ref02_Unlike_ev (k : Nat) (x : (List.foldr Ty.cons .nil [(.int .i64), (.int .i64)]).den) : evTop Go.Proofs.Try.prog ref02_Unlike_g ref02_Unlike_h 20 k 134 (argAVs [(.int .i64), (.int .i64)] x) [(.int .i64)] = ref02_Unlike k x.1 x.2.1 := by kernel_rfl
theorem ref02_Unlike_ok (k : Nat) : FnOk Go.Proofs.Try.prog 134 (ref02_Unlike_sig k) := fn_ok' (Γ := ref02_Unlike_g) (H := ref02_Unlike_h) (fun k => GOk.nil) (by kernel_rfl) (by kernel_rfl) (ref02_Unlike_ev k)
def ref02_Step_sig (k : Nat) : Sig := ⟨[(.int .i64), (.int .u8)], [(.int .i64), .bool], fun x => ref02_Step k x.1 x.2.1⟩
def ref02_Step_g (k : Nat) : FuncId → Option Sig := Ab.look [(134, ref02_Unlike_sig k)]
def ref02_Step_h (f r : Nat) : Option Hint := (Ab.look (α := List (Nat × Hint)) [(126, [(5, ⟨[.tmp 0 (.int .i64), .tmp 6 (.int .i64)], [18, 19, 22, 23, 24, 25, 26, 27, 28, 29, 20, 21]⟩)])] f).bind fun l => Ab.look l r
theorem ref02_Step_ev (k : Nat) (x : (List.foldr Ty.cons .nil [(.int .i64), (.int .u8)]).den) : evTop Go.Proofs.Try.prog ref02_Step_g ref02_Step_h 20 k 126 (argAVs [(.int .i64), (.int .u8)] x) [(.int .i64), .bool] = ref02_Step k x.1 x.2.1 := by kernel_rfl
theorem ref02_Step_ok (k : Nat) : FnOk Go.Proofs.Try.prog 126 (ref02_Step_sig k) := fn_ok' (Γ := ref02_Step_g) (H := ref02_Step_h) (fun k => (.cons (ref02_Unlike_ok k) GOk.nil)) (by kernel_rfl) (by kernel_rfl) (ref02_Step_ev k)
def ref02_Of_sig (k : Nat) : Sig := ⟨[.str], [(.int .i64)], fun x => ref02_Of k x.1⟩
def ref02_Of_g (k : Nat) : FuncId → Option Sig := Ab.look [(126, ref02_Step_sig k)]
def ref02_Of_h (f r : Nat) : Option Hint := (Ab.look (α := List (Nat × Hint)) [(113, [(3, ⟨[.tmp 3 (.int .i64), .tmp 4 (.int .i64)], [7, 8, 9, 10, 14, 15, 16, 17, 18, 13, 19, 20, 5, 6, 21, 11, 12]⟩)])] f).bind fun l => Ab.look l r
theorem ref02_Of_ev (k : Nat) (x : (List.foldr Ty.cons .nil [.str]).den) : evTop Go.Proofs.Try.prog ref02_Of_g ref02_Of_h 20 k 113 (argAVs [.str] x) [(.int .i64)] = ref02_Of k x.1 := by kernel_rfl
theorem ref02_Of_ok (k : Nat) : FnOk Go.Proofs.Try.prog 113 (ref02_Of_sig k) := fn_ok' (Γ := ref02_Of_g) (H := ref02_Of_h) (fun k => (.cons (ref02_Step_ok k) GOk.nil)) (by kernel_rfl) (by kernel_rfl) (ref02_Of_ev k)
def ref03_Get_sig (k : Nat) : Sig := ⟨[.str], [(.int .i64), .str, .str, (.int .i64)], fun x => ref03_Get k x.1⟩
def ref03_Get_g (k : Nat) : FuncId → Option Sig := Ab.look [(45, ref01_GetInt_sig k), (82, ref01_GetText_sig k), (113, ref02_Of_sig k)]
def ref03_Get_h (f r : Nat) : Option Hint := (Ab.look (α := List (Nat × Hint)) [] f).bind fun l => Ab.look l r
theorem ref03_Get_ev (k : Nat) (x : (List.foldr Ty.cons .nil [.str]).den) : evTop Go.Proofs.Try.prog ref03_Get_g ref03_Get_h 20 k 81 (argAVs [.str] x) [(.int .i64), .str, .str, (.int .i64)] = ref03_Get k x.1 := by kernel_rfl
theorem ref03_Get_ok (k : Nat) : FnOk Go.Proofs.Try.prog 81 (ref03_Get_sig k) := fn_ok' (Γ := ref03_Get_g) (H := ref03_Get_h) (fun k => (.cons (ref01_GetInt_ok k) (.cons (ref01_GetText_ok k) (.cons (ref02_Of_ok k) GOk.nil)))) (by kernel_rfl) (by kernel_rfl) (ref03_Get_ev k)
def ref03_GetRow_sig (k : Nat) : Sig := ⟨[.str], [(.int .i64), (.sl .str), .str, (.int .i64)], fun x => ref03_GetRow k x.1⟩
def ref03_GetRow_g (k : Nat) : FuncId → Option Sig := Ab.look [(81, ref03_Get_sig k), (45, ref01_GetInt_sig k), (82, ref01_GetText_sig k)]
def ref03_GetRow_h (f r : Nat) : Option Hint := (Ab.look (α := List (Nat × Hint)) [(43, [(9, ⟨[.tmp 2 (.int .i64), .tmp 3 (.sl .str), .tmp 4 .str, .tmp 5 (.int .i64), .row 13 9 .str, .tmp 11 .str, .tmp 14 (.int .i64)], [44, 45, 46, 50, 51, 49, 52, 53, 54, 15, 16, 17, 55, 56, 57, 58, 59, 60, 61, 47, 48]⟩)])] f).bind fun l => Ab.look l r
theorem ref03_GetRow_ev (k : Nat) (x : (List.foldr Ty.cons .nil [.str]).den) : evTop Go.Proofs.Try.prog ref03_GetRow_g ref03_GetRow_h 20 k 43 (argAVs [.str] x) [(.int .i64), (.sl .str), .str, (.int .i64)] = ref03_GetRow k x.1 := by kernel_rfl
theorem ref03_GetRow_ok (k : Nat) : FnOk Go.Proofs.Try.prog 43 (ref03_GetRow_sig k) := fn_ok' (Γ := ref03_GetRow_g) (H := ref03_GetRow_h) (fun k => (.cons (ref03_Get_ok k) (.cons (ref01_GetInt_ok k) (.cons (ref01_GetText_ok k) GOk.nil)))) (by kernel_rfl) (by kernel_rfl) (ref03_GetRow_ev k)
def ref16_Load_sig (k : Nat) : Sig := ⟨[(.cons (.int .i64) (.cons .str (.cons .str (.cons (.int .i64) (.cons .str (.cons .str .nil))))))], [(.int .i64), (.sl .str), .bool, (.int .i64)], fun x => ref16_Load k x.1⟩
def ref16_Load_g (k : Nat) : FuncId → Option Sig := Ab.look [(42, ref16_Is_sig k), (44, ref12_Read_sig k), (43, ref03_GetRow_sig k), (45, ref01_GetInt_sig k), (15, ref01_OwnTexts_sig k)]
def ref16_Load_h (f r : Nat) : Option Hint := (Ab.look (α := List (Nat × Hint)) [] f).bind fun l => Ab.look l r
theorem ref16_Load_ev (k : Nat) (x : (List.foldr Ty.cons .nil [(.cons (.int .i64) (.cons .str (.cons .str (.cons (.int .i64) (.cons .str (.cons .str .nil))))))]).den) : evTop Go.Proofs.Try.prog ref16_Load_g ref16_Load_h 20 k 16 (argAVs [(.cons (.int .i64) (.cons .str (.cons .str (.cons (.int .i64) (.cons .str (.cons .str .nil))))))] x) [(.int .i64), (.sl .str), .bool, (.int .i64)] = ref16_Load k x.1 := by kernel_rfl
theorem ref16_Load_ok (k : Nat) : FnOk Go.Proofs.Try.prog 16 (ref16_Load_sig k) := fn_ok' (Γ := ref16_Load_g) (H := ref16_Load_h) (fun k => (.cons (ref16_Is_ok k) (.cons (ref12_Read_ok k) (.cons (ref03_GetRow_ok k) (.cons (ref01_GetInt_ok k) (.cons (ref01_OwnTexts_ok k) GOk.nil)))))) (by kernel_rfl) (by kernel_rfl) (ref16_Load_ev k)
def ref01_Text_sig (k : Nat) : Sig := ⟨[.str], [.str, (.int .i64)], fun x => ref01_Text k x.1⟩
def ref01_Text_g (k : Nat) : FuncId → Option Sig := Ab.look [(83, ref01_Int_sig k)]
def ref01_Text_h (f r : Nat) : Option Hint := (Ab.look (α := List (Nat × Hint)) [] f).bind fun l => Ab.look l r
theorem ref01_Text_ev (k : Nat) (x : (List.foldr Ty.cons .nil [.str]).den) : evTop Go.Proofs.Try.prog ref01_Text_g ref01_Text_h 20 k 114 (argAVs [.str] x) [.str, (.int .i64)] = ref01_Text k x.1 := by kernel_rfl
theorem ref01_Text_ok (k : Nat) : FnOk Go.Proofs.Try.prog 114 (ref01_Text_sig k) := fn_ok' (Γ := ref01_Text_g) (H := ref01_Text_h) (fun k => (.cons (ref01_Int_ok k) GOk.nil)) (by kernel_rfl) (by kernel_rfl) (ref01_Text_ev k)
def ref03_Put_sig (k : Nat) : Sig := ⟨[(.int .i64), .str], [.str, (.int .i64)], fun x => ref03_Put k x.1 x.2.1⟩
def ref03_Put_g (k : Nat) : FuncId → Option Sig := Ab.look [(114, ref01_Text_sig k), (83, ref01_Int_sig k), (113, ref02_Of_sig k)]
def ref03_Put_h (f r : Nat) : Option Hint := (Ab.look (α := List (Nat × Hint)) [] f).bind fun l => Ab.look l r
theorem ref03_Put_ev (k : Nat) (x : (List.foldr Ty.cons .nil [(.int .i64), .str]).den) : evTop Go.Proofs.Try.prog ref03_Put_g ref03_Put_h 20 k 115 (argAVs [(.int .i64), .str] x) [.str, (.int .i64)] = ref03_Put k x.1 x.2.1 := by kernel_rfl
theorem ref03_Put_ok (k : Nat) : FnOk Go.Proofs.Try.prog 115 (ref03_Put_sig k) := fn_ok' (Γ := ref03_Put_g) (H := ref03_Put_h) (fun k => (.cons (ref01_Text_ok k) (.cons (ref01_Int_ok k) (.cons (ref02_Of_ok k) GOk.nil)))) (by kernel_rfl) (by kernel_rfl) (ref03_Put_ev k)
def ref03_Row_sig (k : Nat) : Sig := ⟨[(.int .i64), (.sl .str)], [.str, (.int .i64)], fun x => ref03_Row k x.1 x.2.1⟩
def ref03_Row_g (k : Nat) : FuncId → Option Sig := Ab.look [(83, ref01_Int_sig k), (114, ref01_Text_sig k), (115, ref03_Put_sig k)]
def ref03_Row_h (f r : Nat) : Option Hint := (Ab.look (α := List (Nat × Hint)) [(84, [(7, ⟨[.tmp 4 .str, .tmp 5 (.int .i64), .tmp 6 .str, .tmp 8 (.int .i64)], [26, 27, 28, 29, 33, 34, 35, 36, 37, 32, 38, 39, 9, 10, 40, 41, 42, 43, 44, 45, 30, 31]⟩)])] f).bind fun l => Ab.look l r
theorem ref03_Row_ev (k : Nat) (x : (List.foldr Ty.cons .nil [(.int .i64), (.sl .str)]).den) : evTop Go.Proofs.Try.prog ref03_Row_g ref03_Row_h 20 k 84 (argAVs [(.int .i64), (.sl .str)] x) [.str, (.int .i64)] = ref03_Row k x.1 x.2.1 := by kernel_rfl
theorem ref03_Row_ok (k : Nat) : FnOk Go.Proofs.Try.prog 84 (ref03_Row_sig k) := fn_ok' (Γ := ref03_Row_g) (H := ref03_Row_h) (fun k => (.cons (ref01_Int_ok k) (.cons (ref01_Text_ok k) (.cons (ref03_Put_ok k) GOk.nil)))) (by kernel_rfl) (by kernel_rfl) (ref03_Row_ev k)
def ref16_Picture_sig (k : Nat) : Sig := ⟨[(.int .i64), (.sl .str)], [.str, (.int .i64)], fun x => ref16_Picture k x.1 x.2.1⟩
def ref16_Picture_g (k : Nat) : FuncId → Option Sig := Ab.look [(83, ref01_Int_sig k), (84, ref03_Row_sig k)]
def ref16_Picture_h (f r : Nat) : Option Hint := (Ab.look (α := List (Nat × Hint)) [] f).bind fun l => Ab.look l r
theorem ref16_Picture_ev (k : Nat) (x : (List.foldr Ty.cons .nil [(.int .i64), (.sl .str)]).den) : evTop Go.Proofs.Try.prog ref16_Picture_g ref16_Picture_h 20 k 46 (argAVs [(.int .i64), (.sl .str)] x) [.str, (.int .i64)] = ref16_Picture k x.1 x.2.1 := by kernel_rfl
theorem ref16_Picture_ok (k : Nat) : FnOk Go.Proofs.Try.prog 46 (ref16_Picture_sig k) := fn_ok' (Γ := ref16_Picture_g) (H := ref16_Picture_h) (fun k => (.cons (ref01_Int_ok k) (.cons (ref03_Row_ok k) GOk.nil))) (by kernel_rfl) (by kernel_rfl) (ref16_Picture_ev k)
def ref16_Save_sig (k : Nat) : Sig := ⟨[(.cons (.int .i64) (.cons .str (.cons .str (.cons (.int .i64) (.cons .str (.cons .str .nil)))))), (.int .i64), (.sl .str), (.int .i64)], [(.cons (.int .i64) (.cons .str (.cons .str (.cons (.int .i64) (.cons .str (.cons .str .nil)))))), .bool, (.int .i64)], fun x => ref16_Save k x.1 x.2.1 x.2.2.1 x.2.2.2.1⟩
def ref16_Save_g (k : Nat) : FuncId → Option Sig := Ab.look [(42, ref16_Is_sig k), (46, ref16_Picture_sig k)]
def ref16_Save_h (f r : Nat) : Option Hint := (Ab.look (α := List (Nat × Hint)) [] f).bind fun l => Ab.look l r
theorem ref16_Save_ev (k : Nat) (x : (List.foldr Ty.cons .nil [(.cons (.int .i64) (.cons .str (.cons .str (.cons (.int .i64) (.cons .str (.cons .str .nil)))))), (.int .i64), (.sl .str), (.int .i64)]).den) : evTop Go.Proofs.Try.prog ref16_Save_g ref16_Save_h 20 k 17 (argAVs [(.cons (.int .i64) (.cons .str (.cons .str (.cons (.int .i64) (.cons .str (.cons .str .nil)))))), (.int .i64), (.sl .str), (.int .i64)] x) [(.cons (.int .i64) (.cons .str (.cons .str (.cons (.int .i64) (.cons .str (.cons .str .nil)))))), .bool, (.int .i64)] = ref16_Save k x.1 x.2.1 x.2.2.1 x.2.2.2.1 := by kernel_rfl
theorem ref16_Save_ok (k : Nat) : FnOk Go.Proofs.Try.prog 17 (ref16_Save_sig k) := fn_ok' (Γ := ref16_Save_g) (H := ref16_Save_h) (fun k => (.cons (ref16_Is_ok k) (.cons (ref16_Picture_ok k) GOk.nil))) (by kernel_rfl) (by kernel_rfl) (ref16_Save_ev k)
def file_Crash_sig (k : Nat) : Sig := ⟨[(.cons (.int .i64) (.cons .str (.cons .str .nil))), (.int .i64)], [(.cons (.int .i64) (.cons .str (.cons .str .nil))), (.int .i64)], fun x => file_Crash k x.1 x.2.1⟩
def file_Crash_g (k : Nat) : FuncId → Option Sig := Ab.look [(73, file_right_sig k), (76, file_bytes_kept_sig k)]
def file_Crash_h (f r : Nat) : Option Hint := (Ab.look (α := List (Nat × Hint)) [] f).bind fun l => Ab.look l r
theorem file_Crash_ev (k : Nat) (x : (List.foldr Ty.cons .nil [(.cons (.int .i64) (.cons .str (.cons .str .nil))), (.int .i64)]).den) : evTop Go.Proofs.Try.prog file_Crash_g file_Crash_h 20 k 47 (argAVs [(.cons (.int .i64) (.cons .str (.cons .str .nil))), (.int .i64)] x) [(.cons (.int .i64) (.cons .str (.cons .str .nil))), (.int .i64)] = file_Crash k x.1 x.2.1 := by kernel_rfl
theorem file_Crash_ok (k : Nat) : FnOk Go.Proofs.Try.prog 47 (file_Crash_sig k) := fn_ok' (Γ := file_Crash_g) (H := file_Crash_h) (fun k => (.cons (file_right_ok k) (.cons (file_bytes_kept_ok k) GOk.nil))) (by kernel_rfl) (by kernel_rfl) (file_Crash_ev k)
def snap_Crash_sig (k : Nat) : Sig := ⟨[(.cons (.int .i64) (.cons .str (.cons .str (.cons (.int .i64) (.cons .str (.cons .str .nil)))))), (.int .i64)], [(.cons (.int .i64) (.cons .str (.cons .str (.cons (.int .i64) (.cons .str (.cons .str .nil)))))), (.int .i64)], fun x => snap_Crash k x.1 x.2.1⟩
def snap_Crash_g (k : Nat) : FuncId → Option Sig := Ab.look [(30, snap_is_sig k), (47, file_Crash_sig k)]
def snap_Crash_h (f r : Nat) : Option Hint := (Ab.look (α := List (Nat × Hint)) [] f).bind fun l => Ab.look l r
theorem snap_Crash_ev (k : Nat) (x : (List.foldr Ty.cons .nil [(.cons (.int .i64) (.cons .str (.cons .str (.cons (.int .i64) (.cons .str (.cons .str .nil)))))), (.int .i64)]).den) : evTop Go.Proofs.Try.prog snap_Crash_g snap_Crash_h 20 k 18 (argAVs [(.cons (.int .i64) (.cons .str (.cons .str (.cons (.int .i64) (.cons .str (.cons .str .nil)))))), (.int .i64)] x) [(.cons (.int .i64) (.cons .str (.cons .str (.cons (.int .i64) (.cons .str (.cons .str .nil)))))), (.int .i64)] = snap_Crash k x.1 x.2.1 := by kernel_rfl
theorem snap_Crash_ok (k : Nat) : FnOk Go.Proofs.Try.prog 18 (snap_Crash_sig k) := fn_ok' (Γ := snap_Crash_g) (H := snap_Crash_h) (fun k => (.cons (snap_is_ok k) (.cons (file_Crash_ok k) GOk.nil))) (by kernel_rfl) (by kernel_rfl) (snap_Crash_ev k)
def ref12_Crash_sig (k : Nat) : Sig := ⟨[(.cons (.int .i64) (.cons .str (.cons .str .nil))), (.int .i64)], [(.cons (.int .i64) (.cons .str (.cons .str .nil))), (.int .i64)], fun x => ref12_Crash k x.1 x.2.1⟩
def ref12_Crash_g (k : Nat) : FuncId → Option Sig := Ab.look [(80, ref12_Is_sig k)]
def ref12_Crash_h (f r : Nat) : Option Hint := (Ab.look (α := List (Nat × Hint)) [] f).bind fun l => Ab.look l r
theorem ref12_Crash_ev (k : Nat) (x : (List.foldr Ty.cons .nil [(.cons (.int .i64) (.cons .str (.cons .str .nil))), (.int .i64)]).den) : evTop Go.Proofs.Try.prog ref12_Crash_g ref12_Crash_h 20 k 48 (argAVs [(.cons (.int .i64) (.cons .str (.cons .str .nil))), (.int .i64)] x) [(.cons (.int .i64) (.cons .str (.cons .str .nil))), (.int .i64)] = ref12_Crash k x.1 x.2.1 := by kernel_rfl
theorem ref12_Crash_ok (k : Nat) : FnOk Go.Proofs.Try.prog 48 (ref12_Crash_sig k) := fn_ok' (Γ := ref12_Crash_g) (H := ref12_Crash_h) (fun k => (.cons (ref12_Is_ok k) GOk.nil)) (by kernel_rfl) (by kernel_rfl) (ref12_Crash_ev k)
def ref16_Crash_sig (k : Nat) : Sig := ⟨[(.cons (.int .i64) (.cons .str (.cons .str (.cons (.int .i64) (.cons .str (.cons .str .nil)))))), (.int .i64)], [(.cons (.int .i64) (.cons .str (.cons .str (.cons (.int .i64) (.cons .str (.cons .str .nil)))))), (.int .i64)], fun x => ref16_Crash k x.1 x.2.1⟩
def ref16_Crash_g (k : Nat) : FuncId → Option Sig := Ab.look [(42, ref16_Is_sig k), (48, ref12_Crash_sig k)]
def ref16_Crash_h (f r : Nat) : Option Hint := (Ab.look (α := List (Nat × Hint)) [] f).bind fun l => Ab.look l r
theorem ref16_Crash_ev (k : Nat) (x : (List.foldr Ty.cons .nil [(.cons (.int .i64) (.cons .str (.cons .str (.cons (.int .i64) (.cons .str (.cons .str .nil)))))), (.int .i64)]).den) : evTop Go.Proofs.Try.prog ref16_Crash_g ref16_Crash_h 20 k 19 (argAVs [(.cons (.int .i64) (.cons .str (.cons .str (.cons (.int .i64) (.cons .str (.cons .str .nil)))))), (.int .i64)] x) [(.cons (.int .i64) (.cons .str (.cons .str (.cons (.int .i64) (.cons .str (.cons .str .nil)))))), (.int .i64)] = ref16_Crash k x.1 x.2.1 := by kernel_rfl
theorem ref16_Crash_ok (k : Nat) : FnOk Go.Proofs.Try.prog 19 (ref16_Crash_sig k) := fn_ok' (Γ := ref16_Crash_g) (H := ref16_Crash_h) (fun k => (.cons (ref16_Is_ok k) (.cons (ref12_Crash_ok k) GOk.nil))) (by kernel_rfl) (by kernel_rfl) (ref16_Crash_ev k)
def ref12_New_sig (k : Nat) : Sig := ⟨[(.int .i64)], [(.cons (.int .i64) (.cons .str (.cons .str .nil))), (.int .i64)], fun x => ref12_New k x.1⟩
def ref12_New_g (k : Nat) : FuncId → Option Sig := Ab.look []
def ref12_New_h (f r : Nat) : Option Hint := (Ab.look (α := List (Nat × Hint)) [] f).bind fun l => Ab.look l r
theorem ref12_New_ev (k : Nat) (x : (List.foldr Ty.cons .nil [(.int .i64)]).den) : evTop Go.Proofs.Try.prog ref12_New_g ref12_New_h 20 k 50 (argAVs [(.int .i64)] x) [(.cons (.int .i64) (.cons .str (.cons .str .nil))), (.int .i64)] = ref12_New k x.1 := by kernel_rfl
theorem ref12_New_ok (k : Nat) : FnOk Go.Proofs.Try.prog 50 (ref12_New_sig k) := fn_ok' (Γ := ref12_New_g) (H := ref12_New_h) (fun k => GOk.nil) (by kernel_rfl) (by kernel_rfl) (ref12_New_ev k)
def ref16_New_sig (k : Nat) : Sig := ⟨[(.int .i64)], [(.cons (.int .i64) (.cons .str (.cons .str (.cons (.int .i64) (.cons .str (.cons .str .nil)))))), (.int .i64)], fun x => ref16_New k x.1⟩
def ref16_New_g (k : Nat) : FuncId → Option Sig := Ab.look [(50, ref12_New_sig k)]
def ref16_New_h (f r : Nat) : Option Hint := (Ab.look (α := List (Nat × Hint)) [] f).bind fun l => Ab.look l r
theorem ref16_New_ev (k : Nat) (x : (List.foldr Ty.cons .nil [(.int .i64)]).den) : evTop Go.Proofs.Try.prog ref16_New_g ref16_New_h 20 k 21 (argAVs [(.int .i64)] x) [(.cons (.int .i64) (.cons .str (.cons .str (.cons (.int .i64) (.cons .str (.cons .str .nil)))))), (.int .i64)] = ref16_New k x.1 := by kernel_rfl
theorem ref16_New_ok (k : Nat) : FnOk Go.Proofs.Try.prog 21 (ref16_New_sig k) := fn_ok' (Γ := ref16_New_g) (H := ref16_New_h) (fun k => (.cons (ref12_New_ok k) GOk.nil)) (by kernel_rfl) (by kernel_rfl) (ref16_New_ev k)
def law16_SnapDoes_sig (k : Nat) : Sig := ⟨[(.cons (.int .i64) (.cons .str (.cons .str (.cons (.int .i64) (.cons .str (.cons .str .nil)))))), (.int .i64), (.sl .str), (.int .i64), (.int .i64)], [.bool], fun x => law16_SnapDoes k x.1 x.2.1 x.2.2.1 x.2.2.2.1 x.2.2.2.2.1⟩
def law16_SnapDoes_g (k : Nat) : FuncId → Option Sig := Ab.look [(10, law16_far_sig k), (15, ref01_OwnTexts_sig k), (13, snap_Load_sig k), (16, ref16_Load_sig k), (11, snap_Save_sig k), (17, ref16_Save_sig k), (18, snap_Crash_sig k), (19, ref16_Crash_sig k), (20, snap_New_sig k), (21, ref16_New_sig k), (12, law16_snapped_sig k), (14, ref01_Texts_sig k)]
def law16_SnapDoes_h (f r : Nat) : Option Hint := (Ab.look (α := List (Nat × Hint)) [] f).bind fun l => Ab.look l r
theorem law16_SnapDoes_ev (k : Nat) (x : (List.foldr Ty.cons .nil [(.cons (.int .i64) (.cons .str (.cons .str (.cons (.int .i64) (.cons .str (.cons .str .nil)))))), (.int .i64), (.sl .str), (.int .i64), (.int .i64)]).den) : evTop Go.Proofs.Try.prog law16_SnapDoes_g law16_SnapDoes_h 20 k 5 (argAVs [(.cons (.int .i64) (.cons .str (.cons .str (.cons (.int .i64) (.cons .str (.cons .str .nil)))))), (.int .i64), (.sl .str), (.int .i64), (.int .i64)] x) [.bool] = law16_SnapDoes k x.1 x.2.1 x.2.2.1 x.2.2.2.1 x.2.2.2.2.1 := by kernel_rfl
theorem law16_SnapDoes_ok (k : Nat) : FnOk Go.Proofs.Try.prog 5 (law16_SnapDoes_sig k) := fn_ok' (Γ := law16_SnapDoes_g) (H := law16_SnapDoes_h) (fun k => (.cons (law16_far_ok k) (.cons (ref01_OwnTexts_ok k) (.cons (snap_Load_ok k) (.cons (ref16_Load_ok k) (.cons (snap_Save_ok k) (.cons (ref16_Save_ok k) (.cons (snap_Crash_ok k) (.cons (ref16_Crash_ok k) (.cons (snap_New_ok k) (.cons (ref16_New_ok k) (.cons (law16_snapped_ok k) (.cons (ref01_Texts_ok k) GOk.nil))))))))))))) (by kernel_rfl) (by kernel_rfl) (law16_SnapDoes_ev k)
def law16_SnapCrash_sig (k : Nat) : Sig := ⟨[(.cons (.int .i64) (.cons .str (.cons .str (.cons (.int .i64) (.cons .str (.cons .str .nil)))))), (.int .i64), (.sl .str), (.int .i64), (.int .i64)], [.bool], fun x => law16_SnapCrash k x.1 x.2.1 x.2.2.1 x.2.2.2.1 x.2.2.2.2.1⟩
def law16_SnapCrash_g (k : Nat) : FuncId → Option Sig := Ab.look [(10, law16_far_sig k), (11, snap_Save_sig k), (12, law16_snapped_sig k), (18, snap_Crash_sig k), (13, snap_Load_sig k), (14, ref01_Texts_sig k)]
def law16_SnapCrash_h (f r : Nat) : Option Hint := (Ab.look (α := List (Nat × Hint)) [] f).bind fun l => Ab.look l r
theorem law16_SnapCrash_ev (k : Nat) (x : (List.foldr Ty.cons .nil [(.cons (.int .i64) (.cons .str (.cons .str (.cons (.int .i64) (.cons .str (.cons .str .nil)))))), (.int .i64), (.sl .str), (.int .i64), (.int .i64)]).den) : evTop Go.Proofs.Try.prog law16_SnapCrash_g law16_SnapCrash_h 20 k 6 (argAVs [(.cons (.int .i64) (.cons .str (.cons .str (.cons (.int .i64) (.cons .str (.cons .str .nil)))))), (.int .i64), (.sl .str), (.int .i64), (.int .i64)] x) [.bool] = law16_SnapCrash k x.1 x.2.1 x.2.2.1 x.2.2.2.1 x.2.2.2.2.1 := by kernel_rfl
theorem law16_SnapCrash_ok (k : Nat) : FnOk Go.Proofs.Try.prog 6 (law16_SnapCrash_sig k) := fn_ok' (Γ := law16_SnapCrash_g) (H := law16_SnapCrash_h) (fun k => (.cons (law16_far_ok k) (.cons (snap_Save_ok k) (.cons (law16_snapped_ok k) (.cons (snap_Crash_ok k) (.cons (snap_Load_ok k) (.cons (ref01_Texts_ok k) GOk.nil))))))) (by kernel_rfl) (by kernel_rfl) (law16_SnapCrash_ev k)
def law16_SnapAgain_sig (k : Nat) : Sig := ⟨[(.cons (.int .i64) (.cons .str (.cons .str (.cons (.int .i64) (.cons .str (.cons .str .nil)))))), (.int .i64), (.sl .str), (.int .i64), (.int .i64), (.int .i64), (.sl .str)], [.bool], fun x => law16_SnapAgain k x.1 x.2.1 x.2.2.1 x.2.2.2.1 x.2.2.2.2.1 x.2.2.2.2.2.1 x.2.2.2.2.2.2.1⟩
def law16_SnapAgain_g (k : Nat) : FuncId → Option Sig := Ab.look [(10, law16_far_sig k), (11, snap_Save_sig k), (18, snap_Crash_sig k), (12, law16_snapped_sig k), (13, snap_Load_sig k), (14, ref01_Texts_sig k)]
def law16_SnapAgain_h (f r : Nat) : Option Hint := (Ab.look (α := List (Nat × Hint)) [] f).bind fun l => Ab.look l r
theorem law16_SnapAgain_ev (k : Nat) (x : (List.foldr Ty.cons .nil [(.cons (.int .i64) (.cons .str (.cons .str (.cons (.int .i64) (.cons .str (.cons .str .nil)))))), (.int .i64), (.sl .str), (.int .i64), (.int .i64), (.int .i64), (.sl .str)]).den) : evTop Go.Proofs.Try.prog law16_SnapAgain_g law16_SnapAgain_h 20 k 7 (argAVs [(.cons (.int .i64) (.cons .str (.cons .str (.cons (.int .i64) (.cons .str (.cons .str .nil)))))), (.int .i64), (.sl .str), (.int .i64), (.int .i64), (.int .i64), (.sl .str)] x) [.bool] = law16_SnapAgain k x.1 x.2.1 x.2.2.1 x.2.2.2.1 x.2.2.2.2.1 x.2.2.2.2.2.1 x.2.2.2.2.2.2.1 := by kernel_rfl
theorem law16_SnapAgain_ok (k : Nat) : FnOk Go.Proofs.Try.prog 7 (law16_SnapAgain_sig k) := fn_ok' (Γ := law16_SnapAgain_g) (H := law16_SnapAgain_h) (fun k => (.cons (law16_far_ok k) (.cons (snap_Save_ok k) (.cons (snap_Crash_ok k) (.cons (law16_snapped_ok k) (.cons (snap_Load_ok k) (.cons (ref01_Texts_ok k) GOk.nil))))))) (by kernel_rfl) (by kernel_rfl) (law16_SnapAgain_ev k)
end Go.Proofs.Ythgeadmcliiaoaa.A
