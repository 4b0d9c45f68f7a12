/- PRINTED BY resid.py (ours): each function's calls come to what is printed of it. -/
import Derived.Test.YtaadndikbecdbaaFnFileDoes
import Derived.Test.YtaadndikbecdbaaAbG
import Derived.Test.YtaadndikbecdbaaProg
import Derived.Test.YtaadndikbecdbaaAHJoin
namespace Go.Proofs.Ytaadndikbecdbaa.A
open Go Go.Proofs.Ytaadndikbecdbaa.Ab
set_option linter.unusedVariables false
set_option maxRecDepth 100000
def ref12_Big_sig (k : Nat) : Sig := ⟨[(.cons (.int .i64) (.cons .str (.cons .str .nil)))], [.bool], fun x => ref12_Big k x.1⟩
def ref12_Big_g (k : Nat) : FuncId → Option Sig := Ab.look []
def ref12_Big_h (f r : Nat) : Option Hint := (Ab.look (α := List (Nat × Hint)) [] f).bind fun l => Ab.look l r
theorem ref12_Big_ev (k : Nat) (x : (List.foldr Ty.cons .nil [(.cons (.int .i64) (.cons .str (.cons .str .nil)))]).den) : evTop Go.Proofs.Try.prog ref12_Big_g ref12_Big_h 20 k 12 (argAVs [(.cons (.int .i64) (.cons .str (.cons .str .nil)))] x) [.bool] = ref12_Big k x.1 := by kernel_rfl
theorem ref12_Big_ok (k : Nat) : FnOk Go.Proofs.Try.prog 12 (ref12_Big_sig k) := fn_ok' (Γ := ref12_Big_g) (H := ref12_Big_h) (fun k => GOk.nil) (by kernel_rfl) (by kernel_rfl) (ref12_Big_ev k)
def ref01_Short_sig (k : Nat) : Sig := ⟨[(.sl .str)], [.bool], fun x => ref01_Short k x.1⟩
def ref01_Short_g (k : Nat) : FuncId → Option Sig := Ab.look []
def ref01_Short_h (f r : Nat) : Option Hint := (Ab.look (α := List (Nat × Hint)) [(31, [(2, ⟨[.tmp 2 .bool, .tmp 3 (.int .i64)], [4, 5, 6, 7, 10, 11, 12, 13, 14, 15, 8, 9]⟩)])] f).bind fun l => Ab.look l r
theorem ref01_Short_ev (k : Nat) (x : (List.foldr Ty.cons .nil [(.sl .str)]).den) : evTop Go.Proofs.Try.prog ref01_Short_g ref01_Short_h 20 k 31 (argAVs [(.sl .str)] x) [.bool] = ref01_Short k x.1 := by kernel_rfl
theorem ref01_Short_ok (k : Nat) : FnOk Go.Proofs.Try.prog 31 (ref01_Short_sig k) := fn_ok' (Γ := ref01_Short_g) (H := ref01_Short_h) (fun k => GOk.nil) (by kernel_rfl) (by kernel_rfl) (ref01_Short_ev k)
def law12_far_sig (k : Nat) : Sig := ⟨[(.sl .str)], [.bool], fun x => law12_far k x.1⟩
def law12_far_g (k : Nat) : FuncId → Option Sig := Ab.look [(31, ref01_Short_sig k)]
def law12_far_h (f r : Nat) : Option Hint := (Ab.look (α := List (Nat × Hint)) [] f).bind fun l => Ab.look l r
theorem law12_far_ev (k : Nat) (x : (List.foldr Ty.cons .nil [(.sl .str)]).den) : evTop Go.Proofs.Try.prog law12_far_g law12_far_h 20 k 13 (argAVs [(.sl .str)] x) [.bool] = law12_far k x.1 := by kernel_rfl
theorem law12_far_ok (k : Nat) : FnOk Go.Proofs.Try.prog 13 (law12_far_sig k) := fn_ok' (Γ := law12_far_g) (H := law12_far_h) (fun k => (.cons (ref01_Short_ok k) GOk.nil)) (by kernel_rfl) (by kernel_rfl) (law12_far_ev k)
def ref01_OwnTexts_sig (k : Nat) : Sig := ⟨[(.sl .str)], [(.sl .str)], fun x => ref01_OwnTexts k x.1⟩
def ref01_OwnTexts_g (k : Nat) : FuncId → Option Sig := Ab.look []
def ref01_OwnTexts_h (f r : Nat) : Option Hint := (Ab.look (α := List (Nat × Hint)) [] f).bind fun l => Ab.look l r
theorem ref01_OwnTexts_ev (k : Nat) (x : (List.foldr Ty.cons .nil [(.sl .str)]).den) : evTop Go.Proofs.Try.prog ref01_OwnTexts_g ref01_OwnTexts_h 20 k 14 (argAVs [(.sl .str)] x) [(.sl .str)] = ref01_OwnTexts k x.1 := by kernel_rfl
theorem ref01_OwnTexts_ok (k : Nat) : FnOk Go.Proofs.Try.prog 14 (ref01_OwnTexts_sig k) := fn_ok' (Γ := ref01_OwnTexts_g) (H := ref01_OwnTexts_h) (fun k => GOk.nil) (by kernel_rfl) (by kernel_rfl) (ref01_OwnTexts_ev k)
def file_bytes_all_sig (k : Nat) : Sig := ⟨[(.cons (.int .i64) (.cons .str (.cons .str .nil)))], [.str], fun x => file_bytes_all k x.1⟩
def file_bytes_all_g (k : Nat) : FuncId → Option Sig := Ab.look []
def file_bytes_all_h (f r : Nat) : Option Hint := (Ab.look (α := List (Nat × Hint)) [] f).bind fun l => Ab.look l r
theorem file_bytes_all_ev (k : Nat) (x : (List.foldr Ty.cons .nil [(.cons (.int .i64) (.cons .str (.cons .str .nil)))]).den) : evTop Go.Proofs.Try.prog file_bytes_all_g file_bytes_all_h 20 k 45 (argAVs [(.cons (.int .i64) (.cons .str (.cons .str .nil)))] x) [.str] = file_bytes_all k x.1 := by kernel_rfl
theorem file_bytes_all_ok (k : Nat) : FnOk Go.Proofs.Try.prog 45 (file_bytes_all_sig k) := fn_ok' (Γ := file_bytes_all_g) (H := file_bytes_all_h) (fun k => GOk.nil) (by kernel_rfl) (by kernel_rfl) (file_bytes_all_ev k)
def file_bytes_may_sig (k : Nat) : Sig := ⟨[(.cons (.int .i64) (.cons .str (.cons .str .nil)))], [.bool], fun x => file_bytes_may k x.1⟩
def file_bytes_may_g (k : Nat) : FuncId → Option Sig := Ab.look [(45, file_bytes_all_sig k)]
def file_bytes_may_h (f r : Nat) : Option Hint := (Ab.look (α := List (Nat × Hint)) [] f).bind fun l => Ab.look l r
theorem file_bytes_may_ev (k : Nat) (x : (List.foldr Ty.cons .nil [(.cons (.int .i64) (.cons .str (.cons .str .nil)))]).den) : evTop Go.Proofs.Try.prog file_bytes_may_g file_bytes_may_h 20 k 43 (argAVs [(.cons (.int .i64) (.cons .str (.cons .str .nil)))] x) [.bool] = file_bytes_may k x.1 := by kernel_rfl
theorem file_bytes_may_ok (k : Nat) : FnOk Go.Proofs.Try.prog 43 (file_bytes_may_sig k) := fn_ok' (Γ := file_bytes_may_g) (H := file_bytes_may_h) (fun k => (.cons (file_bytes_all_ok k) GOk.nil)) (by kernel_rfl) (by kernel_rfl) (file_bytes_may_ev k)
def file_right_sig (k : Nat) : Sig := ⟨[(.cons (.int .i64) (.cons .str (.cons .str .nil)))], [(.cons (.int .i64) (.cons .str (.cons .str .nil))), (.int .i64)], fun x => file_right k x.1⟩
def file_right_g (k : Nat) : FuncId → Option Sig := Ab.look [(43, file_bytes_may_sig k)]
def file_right_h (f r : Nat) : Option Hint := (Ab.look (α := List (Nat × Hint)) [] f).bind fun l => Ab.look l r
theorem file_right_ev (k : Nat) (x : (List.foldr Ty.cons .nil [(.cons (.int .i64) (.cons .str (.cons .str .nil)))]).den) : evTop Go.Proofs.Try.prog file_right_g file_right_h 20 k 41 (argAVs [(.cons (.int .i64) (.cons .str (.cons .str .nil)))] x) [(.cons (.int .i64) (.cons .str (.cons .str .nil))), (.int .i64)] = file_right k x.1 := by kernel_rfl
theorem file_right_ok (k : Nat) : FnOk Go.Proofs.Try.prog 41 (file_right_sig k) := fn_ok' (Γ := file_right_g) (H := file_right_h) (fun k => (.cons (file_bytes_may_ok k) GOk.nil)) (by kernel_rfl) (by kernel_rfl) (file_right_ev k)
def file_Add_sig (k : Nat) : Sig := ⟨[(.cons (.int .i64) (.cons .str (.cons .str .nil))), (.sl .str)], [(.cons (.int .i64) (.cons .str (.cons .str .nil))), (.int .i64)], fun x => file_Add k x.1 x.2.1⟩
def file_Add_g (k : Nat) : FuncId → Option Sig := Ab.look [(41, file_right_sig k), (42, strings_Join_sig k), (43, file_bytes_may_sig k)]
def file_Add_h (f r : Nat) : Option Hint := (Ab.look (α := List (Nat × Hint)) [] f).bind fun l => Ab.look l r
theorem file_Add_ev (k : Nat) (x : (List.foldr Ty.cons .nil [(.cons (.int .i64) (.cons .str (.cons .str .nil))), (.sl .str)]).den) : evTop Go.Proofs.Try.prog file_Add_g file_Add_h 20 k 15 (argAVs [(.cons (.int .i64) (.cons .str (.cons .str .nil))), (.sl .str)] x) [(.cons (.int .i64) (.cons .str (.cons .str .nil))), (.int .i64)] = file_Add k x.1 x.2.1 := by kernel_rfl
theorem file_Add_ok (k : Nat) : FnOk Go.Proofs.Try.prog 15 (file_Add_sig k) := fn_ok' (Γ := file_Add_g) (H := file_Add_h) (fun k => (.cons (file_right_ok k) (.cons (strings_Join_ok k) (.cons (file_bytes_may_ok k) GOk.nil)))) (by kernel_rfl) (by kernel_rfl) (file_Add_ev k)
def ref12_Is_sig (k : Nat) : Sig := ⟨[(.cons (.int .i64) (.cons .str (.cons .str .nil)))], [.bool], fun x => ref12_Is k x.1⟩
def ref12_Is_g (k : Nat) : FuncId → Option Sig := Ab.look []
def ref12_Is_h (f r : Nat) : Option Hint := (Ab.look (α := List (Nat × Hint)) [] f).bind fun l => Ab.look l r
theorem ref12_Is_ev (k : Nat) (x : (List.foldr Ty.cons .nil [(.cons (.int .i64) (.cons .str (.cons .str .nil)))]).den) : evTop Go.Proofs.Try.prog ref12_Is_g ref12_Is_h 20 k 27 (argAVs [(.cons (.int .i64) (.cons .str (.cons .str .nil)))] x) [.bool] = ref12_Is k x.1 := by kernel_rfl
theorem ref12_Is_ok (k : Nat) : FnOk Go.Proofs.Try.prog 27 (ref12_Is_sig k) := fn_ok' (Γ := ref12_Is_g) (H := ref12_Is_h) (fun k => GOk.nil) (by kernel_rfl) (by kernel_rfl) (ref12_Is_ev k)
def ref12_Add_sig (k : Nat) : Sig := ⟨[(.cons (.int .i64) (.cons .str (.cons .str .nil))), (.sl .str)], [(.cons (.int .i64) (.cons .str (.cons .str .nil))), (.int .i64)], fun x => ref12_Add k x.1 x.2.1⟩
def ref12_Add_g (k : Nat) : FuncId → Option Sig := Ab.look [(27, ref12_Is_sig k)]
def ref12_Add_h (f r : Nat) : Option Hint := (Ab.look (α := List (Nat × Hint)) [(16, [(4, ⟨[.tmp 5 (.int .i64), .tmp 6 (.int .i64), .box 4 (.cons (.int .i64) (.cons .str (.cons .str .nil))), .box 2 (.cons (.int .i64) (.cons .str (.cons .str .nil)))], [11, 12, 13, 14, 17, 18, 19, 20, 21, 22, 23, 24, 25, 26, 27, 28, 29, 30, 31, 32, 33, 34, 35, 36, 37, 38, 39, 40, 41, 15, 16]⟩)])] f).bind fun l => Ab.look l r
theorem ref12_Add_ev (k : Nat) (x : (List.foldr Ty.cons .nil [(.cons (.int .i64) (.cons .str (.cons .str .nil))), (.sl .str)]).den) : evTop Go.Proofs.Try.prog ref12_Add_g ref12_Add_h 20 k 16 (argAVs [(.cons (.int .i64) (.cons .str (.cons .str .nil))), (.sl .str)] x) [(.cons (.int .i64) (.cons .str (.cons .str .nil))), (.int .i64)] = ref12_Add k x.1 x.2.1 := by kernel_rfl
theorem ref12_Add_ok (k : Nat) : FnOk Go.Proofs.Try.prog 16 (ref12_Add_sig k) := fn_ok' (Γ := ref12_Add_g) (H := ref12_Add_h) (fun k => (.cons (ref12_Is_ok k) GOk.nil)) (by kernel_rfl) (by kernel_rfl) (ref12_Add_ev k)
def file_bytes_kept_sig (k : Nat) : Sig := ⟨[(.cons (.int .i64) (.cons .str (.cons .str .nil))), (.int .i64)], [(.cons (.int .i64) (.cons .str (.cons .str .nil)))], fun x => file_bytes_kept k x.1 x.2.1⟩
def file_bytes_kept_g (k : Nat) : FuncId → Option Sig := Ab.look [(45, file_bytes_all_sig k)]
def file_bytes_kept_h (f r : Nat) : Option Hint := (Ab.look (α := List (Nat × Hint)) [] f).bind fun l => Ab.look l r
theorem file_bytes_kept_ev (k : Nat) (x : (List.foldr Ty.cons .nil [(.cons (.int .i64) (.cons .str (.cons .str .nil))), (.int .i64)]).den) : evTop Go.Proofs.Try.prog file_bytes_kept_g file_bytes_kept_h 20 k 44 (argAVs [(.cons (.int .i64) (.cons .str (.cons .str .nil))), (.int .i64)] x) [(.cons (.int .i64) (.cons .str (.cons .str .nil)))] = file_bytes_kept k x.1 x.2.1 := by kernel_rfl
theorem file_bytes_kept_ok (k : Nat) : FnOk Go.Proofs.Try.prog 44 (file_bytes_kept_sig k) := fn_ok' (Γ := file_bytes_kept_g) (H := file_bytes_kept_h) (fun k => (.cons (file_bytes_all_ok k) GOk.nil)) (by kernel_rfl) (by kernel_rfl) (file_bytes_kept_ev k)
def file_Sync_sig (k : Nat) : Sig := ⟨[(.cons (.int .i64) (.cons .str (.cons .str .nil)))], [(.cons (.int .i64) (.cons .str (.cons .str .nil))), (.int .i64)], fun x => file_Sync k x.1⟩
def file_Sync_g (k : Nat) : FuncId → Option Sig := Ab.look [(41, file_right_sig k), (45, file_bytes_all_sig k), (44, file_bytes_kept_sig k)]
def file_Sync_h (f r : Nat) : Option Hint := (Ab.look (α := List (Nat × Hint)) [] f).bind fun l => Ab.look l r
theorem file_Sync_ev (k : Nat) (x : (List.foldr Ty.cons .nil [(.cons (.int .i64) (.cons .str (.cons .str .nil)))]).den) : evTop Go.Proofs.Try.prog file_Sync_g file_Sync_h 20 k 17 (argAVs [(.cons (.int .i64) (.cons .str (.cons .str .nil)))] x) [(.cons (.int .i64) (.cons .str (.cons .str .nil))), (.int .i64)] = file_Sync k x.1 := by kernel_rfl
theorem file_Sync_ok (k : Nat) : FnOk Go.Proofs.Try.prog 17 (file_Sync_sig k) := fn_ok' (Γ := file_Sync_g) (H := file_Sync_h) (fun k => (.cons (file_right_ok k) (.cons (file_bytes_all_ok k) (.cons (file_bytes_kept_ok k) GOk.nil)))) (by kernel_rfl) (by kernel_rfl) (file_Sync_ev k)
def ref12_Read_sig (k : Nat) : Sig := ⟨[(.cons (.int .i64) (.cons .str (.cons .str .nil)))], [.str], fun x => ref12_Read k x.1⟩
def ref12_Read_g (k : Nat) : FuncId → Option Sig := Ab.look []
def ref12_Read_h (f r : Nat) : Option Hint := (Ab.look (α := List (Nat × Hint)) [] f).bind fun l => Ab.look l r
theorem ref12_Read_ev (k : Nat) (x : (List.foldr Ty.cons .nil [(.cons (.int .i64) (.cons .str (.cons .str .nil)))]).den) : evTop Go.Proofs.Try.prog ref12_Read_g ref12_Read_h 20 k 29 (argAVs [(.cons (.int .i64) (.cons .str (.cons .str .nil)))] x) [.str] = ref12_Read k x.1 := by kernel_rfl
theorem ref12_Read_ok (k : Nat) : FnOk Go.Proofs.Try.prog 29 (ref12_Read_sig k) := fn_ok' (Γ := ref12_Read_g) (H := ref12_Read_h) (fun k => GOk.nil) (by kernel_rfl) (by kernel_rfl) (ref12_Read_ev k)
def ref12_Sync_sig (k : Nat) : Sig := ⟨[(.cons (.int .i64) (.cons .str (.cons .str .nil)))], [(.cons (.int .i64) (.cons .str (.cons .str .nil))), (.int .i64)], fun x => ref12_Sync k x.1⟩
def ref12_Sync_g (k : Nat) : FuncId → Option Sig := Ab.look [(27, ref12_Is_sig k), (29, ref12_Read_sig k)]
def ref12_Sync_h (f r : Nat) : Option Hint := (Ab.look (α := List (Nat × Hint)) [] f).bind fun l => Ab.look l r
theorem ref12_Sync_ev (k : Nat) (x : (List.foldr Ty.cons .nil [(.cons (.int .i64) (.cons .str (.cons .str .nil)))]).den) : evTop Go.Proofs.Try.prog ref12_Sync_g ref12_Sync_h 20 k 18 (argAVs [(.cons (.int .i64) (.cons .str (.cons .str .nil)))] x) [(.cons (.int .i64) (.cons .str (.cons .str .nil))), (.int .i64)] = ref12_Sync k x.1 := by kernel_rfl
theorem ref12_Sync_ok (k : Nat) : FnOk Go.Proofs.Try.prog 18 (ref12_Sync_sig k) := fn_ok' (Γ := ref12_Sync_g) (H := ref12_Sync_h) (fun k => (.cons (ref12_Is_ok k) (.cons (ref12_Read_ok k) GOk.nil))) (by kernel_rfl) (by kernel_rfl) (ref12_Sync_ev k)
def file_Crash_sig (k : Nat) : Sig := ⟨[(.cons (.int .i64) (.cons .str (.cons .str .nil))), (.int .i64)], [(.cons (.int .i64) (.cons .str (.cons .str .nil))), (.int .i64)], fun x => file_Crash k x.1 x.2.1⟩
def file_Crash_g (k : Nat) : FuncId → Option Sig := Ab.look [(41, file_right_sig k), (44, file_bytes_kept_sig k)]
def file_Crash_h (f r : Nat) : Option Hint := (Ab.look (α := List (Nat × Hint)) [] f).bind fun l => Ab.look l r
theorem file_Crash_ev (k : Nat) (x : (List.foldr Ty.cons .nil [(.cons (.int .i64) (.cons .str (.cons .str .nil))), (.int .i64)]).den) : evTop Go.Proofs.Try.prog file_Crash_g file_Crash_h 20 k 19 (argAVs [(.cons (.int .i64) (.cons .str (.cons .str .nil))), (.int .i64)] x) [(.cons (.int .i64) (.cons .str (.cons .str .nil))), (.int .i64)] = file_Crash k x.1 x.2.1 := by kernel_rfl
theorem file_Crash_ok (k : Nat) : FnOk Go.Proofs.Try.prog 19 (file_Crash_sig k) := fn_ok' (Γ := file_Crash_g) (H := file_Crash_h) (fun k => (.cons (file_right_ok k) (.cons (file_bytes_kept_ok k) GOk.nil))) (by kernel_rfl) (by kernel_rfl) (file_Crash_ev k)
def ref12_Crash_sig (k : Nat) : Sig := ⟨[(.cons (.int .i64) (.cons .str (.cons .str .nil))), (.int .i64)], [(.cons (.int .i64) (.cons .str (.cons .str .nil))), (.int .i64)], fun x => ref12_Crash k x.1 x.2.1⟩
def ref12_Crash_g (k : Nat) : FuncId → Option Sig := Ab.look [(27, ref12_Is_sig k)]
def ref12_Crash_h (f r : Nat) : Option Hint := (Ab.look (α := List (Nat × Hint)) [] f).bind fun l => Ab.look l r
theorem ref12_Crash_ev (k : Nat) (x : (List.foldr Ty.cons .nil [(.cons (.int .i64) (.cons .str (.cons .str .nil))), (.int .i64)]).den) : evTop Go.Proofs.Try.prog ref12_Crash_g ref12_Crash_h 20 k 20 (argAVs [(.cons (.int .i64) (.cons .str (.cons .str .nil))), (.int .i64)] x) [(.cons (.int .i64) (.cons .str (.cons .str .nil))), (.int .i64)] = ref12_Crash k x.1 x.2.1 := by kernel_rfl
theorem ref12_Crash_ok (k : Nat) : FnOk Go.Proofs.Try.prog 20 (ref12_Crash_sig k) := fn_ok' (Γ := ref12_Crash_g) (H := ref12_Crash_h) (fun k => (.cons (ref12_Is_ok k) GOk.nil)) (by kernel_rfl) (by kernel_rfl) (ref12_Crash_ev k)
def file_Cut_sig (k : Nat) : Sig := ⟨[(.cons (.int .i64) (.cons .str (.cons .str .nil))), (.int .i64)], [(.cons (.int .i64) (.cons .str (.cons .str .nil))), (.int .i64)], fun x => file_Cut k x.1 x.2.1⟩
def file_Cut_g (k : Nat) : FuncId → Option Sig := Ab.look [(41, file_right_sig k), (45, file_bytes_all_sig k), (44, file_bytes_kept_sig k)]
def file_Cut_h (f r : Nat) : Option Hint := (Ab.look (α := List (Nat × Hint)) [] f).bind fun l => Ab.look l r
theorem file_Cut_ev (k : Nat) (x : (List.foldr Ty.cons .nil [(.cons (.int .i64) (.cons .str (.cons .str .nil))), (.int .i64)]).den) : evTop Go.Proofs.Try.prog file_Cut_g file_Cut_h 20 k 21 (argAVs [(.cons (.int .i64) (.cons .str (.cons .str .nil))), (.int .i64)] x) [(.cons (.int .i64) (.cons .str (.cons .str .nil))), (.int .i64)] = file_Cut k x.1 x.2.1 := by kernel_rfl
theorem file_Cut_ok (k : Nat) : FnOk Go.Proofs.Try.prog 21 (file_Cut_sig k) := fn_ok' (Γ := file_Cut_g) (H := file_Cut_h) (fun k => (.cons (file_right_ok k) (.cons (file_bytes_all_ok k) (.cons (file_bytes_kept_ok k) GOk.nil)))) (by kernel_rfl) (by kernel_rfl) (file_Cut_ev k)
def ref12_Cut_sig (k : Nat) : Sig := ⟨[(.cons (.int .i64) (.cons .str (.cons .str .nil))), (.int .i64)], [(.cons (.int .i64) (.cons .str (.cons .str .nil))), (.int .i64)], fun x => ref12_Cut k x.1 x.2.1⟩
def ref12_Cut_g (k : Nat) : FuncId → Option Sig := Ab.look [(27, ref12_Is_sig k), (29, ref12_Read_sig k)]
def ref12_Cut_h (f r : Nat) : Option Hint := (Ab.look (α := List (Nat × Hint)) [] f).bind fun l => Ab.look l r
theorem ref12_Cut_ev (k : Nat) (x : (List.foldr Ty.cons .nil [(.cons (.int .i64) (.cons .str (.cons .str .nil))), (.int .i64)]).den) : evTop Go.Proofs.Try.prog ref12_Cut_g ref12_Cut_h 20 k 22 (argAVs [(.cons (.int .i64) (.cons .str (.cons .str .nil))), (.int .i64)] x) [(.cons (.int .i64) (.cons .str (.cons .str .nil))), (.int .i64)] = ref12_Cut k x.1 x.2.1 := by kernel_rfl
theorem ref12_Cut_ok (k : Nat) : FnOk Go.Proofs.Try.prog 22 (ref12_Cut_sig k) := fn_ok' (Γ := ref12_Cut_g) (H := ref12_Cut_h) (fun k => (.cons (ref12_Is_ok k) (.cons (ref12_Read_ok k) GOk.nil))) (by kernel_rfl) (by kernel_rfl) (ref12_Cut_ev k)
def file_New_sig (k : Nat) : Sig := ⟨[(.int .i64)], [(.cons (.int .i64) (.cons .str (.cons .str .nil))), (.int .i64)], fun x => file_New k x.1⟩
def file_New_g (k : Nat) : FuncId → Option Sig := Ab.look []
def file_New_h (f r : Nat) : Option Hint := (Ab.look (α := List (Nat × Hint)) [] f).bind fun l => Ab.look l r
theorem file_New_ev (k : Nat) (x : (List.foldr Ty.cons .nil [(.int .i64)]).den) : evTop Go.Proofs.Try.prog file_New_g file_New_h 20 k 23 (argAVs [(.int .i64)] x) [(.cons (.int .i64) (.cons .str (.cons .str .nil))), (.int .i64)] = file_New k x.1 := by kernel_rfl
theorem file_New_ok (k : Nat) : FnOk Go.Proofs.Try.prog 23 (file_New_sig k) := fn_ok' (Γ := file_New_g) (H := file_New_h) (fun k => GOk.nil) (by kernel_rfl) (by kernel_rfl) (file_New_ev k)
def ref12_New_sig (k : Nat) : Sig := ⟨[(.int .i64)], [(.cons (.int .i64) (.cons .str (.cons .str .nil))), (.int .i64)], fun x => ref12_New k x.1⟩
def ref12_New_g (k : Nat) : FuncId → Option Sig := Ab.look []
def ref12_New_h (f r : Nat) : Option Hint := (Ab.look (α := List (Nat × Hint)) [] f).bind fun l => Ab.look l r
theorem ref12_New_ev (k : Nat) (x : (List.foldr Ty.cons .nil [(.int .i64)]).den) : evTop Go.Proofs.Try.prog ref12_New_g ref12_New_h 20 k 24 (argAVs [(.int .i64)] x) [(.cons (.int .i64) (.cons .str (.cons .str .nil))), (.int .i64)] = ref12_New k x.1 := by kernel_rfl
theorem ref12_New_ok (k : Nat) : FnOk Go.Proofs.Try.prog 24 (ref12_New_sig k) := fn_ok' (Γ := ref12_New_g) (H := ref12_New_h) (fun k => GOk.nil) (by kernel_rfl) (by kernel_rfl) (ref12_New_ev k)
def file_Read_sig (k : Nat) : Sig := ⟨[(.cons (.int .i64) (.cons .str (.cons .str .nil)))], [.str], fun x => file_Read k x.1⟩
def file_Read_g (k : Nat) : FuncId → Option Sig := Ab.look [(45, file_bytes_all_sig k)]
def file_Read_h (f r : Nat) : Option Hint := (Ab.look (α := List (Nat × Hint)) [] f).bind fun l => Ab.look l r
theorem file_Read_ev (k : Nat) (x : (List.foldr Ty.cons .nil [(.cons (.int .i64) (.cons .str (.cons .str .nil)))]).den) : evTop Go.Proofs.Try.prog file_Read_g file_Read_h 20 k 28 (argAVs [(.cons (.int .i64) (.cons .str (.cons .str .nil)))] x) [.str] = file_Read k x.1 := by kernel_rfl
theorem file_Read_ok (k : Nat) : FnOk Go.Proofs.Try.prog 28 (file_Read_sig k) := fn_ok' (Γ := file_Read_g) (H := file_Read_h) (fun k => (.cons (file_bytes_all_ok k) GOk.nil)) (by kernel_rfl) (by kernel_rfl) (file_Read_ev k)
def file_Is_sig (k : Nat) : Sig := ⟨[(.cons (.int .i64) (.cons .str (.cons .str .nil)))], [.bool], fun x => file_Is k x.1⟩
def file_Is_g (k : Nat) : FuncId → Option Sig := Ab.look [(43, file_bytes_may_sig k)]
def file_Is_h (f r : Nat) : Option Hint := (Ab.look (α := List (Nat × Hint)) [] f).bind fun l => Ab.look l r
theorem file_Is_ev (k : Nat) (x : (List.foldr Ty.cons .nil [(.cons (.int .i64) (.cons .str (.cons .str .nil)))]).den) : evTop Go.Proofs.Try.prog file_Is_g file_Is_h 20 k 26 (argAVs [(.cons (.int .i64) (.cons .str (.cons .str .nil)))] x) [.bool] = file_Is k x.1 := by kernel_rfl
theorem file_Is_ok (k : Nat) : FnOk Go.Proofs.Try.prog 26 (file_Is_sig k) := fn_ok' (Γ := file_Is_g) (H := file_Is_h) (fun k => (.cons (file_bytes_may_ok k) GOk.nil)) (by kernel_rfl) (by kernel_rfl) (file_Is_ev k)
def law12_filed_sig (k : Nat) : Sig := ⟨[], [.bool], fun x => law12_filed k⟩
def law12_filed_g (k : Nat) : FuncId → Option Sig := Ab.look [(23, file_New_sig k), (15, file_Add_sig k), (17, file_Sync_sig k), (19, file_Crash_sig k), (21, file_Cut_sig k), (28, file_Read_sig k), (26, file_Is_sig k)]
def law12_filed_h (f r : Nat) : Option Hint := (Ab.look (α := List (Nat × Hint)) [] f).bind fun l => Ab.look l r
theorem law12_filed_ev (k : Nat) (x : (List.foldr Ty.cons .nil []).den) : evTop Go.Proofs.Try.prog law12_filed_g law12_filed_h 20 k 25 (argAVs [] x) [.bool] = law12_filed k := by kernel_rfl
theorem law12_filed_ok (k : Nat) : FnOk Go.Proofs.Try.prog 25 (law12_filed_sig k) := fn_ok' (Γ := law12_filed_g) (H := law12_filed_h) (fun k => (.cons (file_New_ok k) (.cons (file_Add_ok k) (.cons (file_Sync_ok k) (.cons (file_Crash_ok k) (.cons (file_Cut_ok k) (.cons (file_Read_ok k) (.cons (file_Is_ok k) GOk.nil)))))))) (by kernel_rfl) (by kernel_rfl) (law12_filed_ev k)
def ref01_Texts_sig (k : Nat) : Sig := ⟨[(.sl .str), (.sl .str)], [.bool], fun x => ref01_Texts k x.1 x.2.1⟩
def ref01_Texts_g (k : Nat) : FuncId → Option Sig := Ab.look []
def ref01_Texts_h (f r : Nat) : Option Hint := (Ab.look (α := List (Nat × Hint)) [(30, [(4, ⟨[.tmp 4 .bool, .tmp 5 (.int .i64)], [11, 12, 13, 14, 17, 18, 19, 20, 21, 22, 23, 24, 25, 15, 16]⟩)])] f).bind fun l => Ab.look l r
theorem ref01_Texts_ev (k : Nat) (x : (List.foldr Ty.cons .nil [(.sl .str), (.sl .str)]).den) : evTop Go.Proofs.Try.prog ref01_Texts_g ref01_Texts_h 20 k 30 (argAVs [(.sl .str), (.sl .str)] x) [.bool] = ref01_Texts k x.1 x.2.1 := by kernel_rfl
theorem ref01_Texts_ok (k : Nat) : FnOk Go.Proofs.Try.prog 30 (ref01_Texts_sig k) := fn_ok' (Γ := ref01_Texts_g) (H := ref01_Texts_h) (fun k => GOk.nil) (by kernel_rfl) (by kernel_rfl) (ref01_Texts_ev k)
def law12_FileDoes_sig (k : Nat) : Sig := ⟨[(.cons (.int .i64) (.cons .str (.cons .str .nil))), (.sl .str), (.int .i64)], [.bool], fun x => law12_FileDoes k x.1 x.2.1 x.2.2.1⟩
def law12_FileDoes_g (k : Nat) : FuncId → Option Sig := Ab.look [(12, ref12_Big_sig k), (13, law12_far_sig k), (14, ref01_OwnTexts_sig k), (15, file_Add_sig k), (16, ref12_Add_sig k), (17, file_Sync_sig k), (18, ref12_Sync_sig k), (19, file_Crash_sig k), (20, ref12_Crash_sig k), (21, file_Cut_sig k), (22, ref12_Cut_sig k), (23, file_New_sig k), (24, ref12_New_sig k), (25, law12_filed_sig k), (26, file_Is_sig k), (27, ref12_Is_sig k), (28, file_Read_sig k), (29, ref12_Read_sig k), (30, ref01_Texts_sig k)]
def law12_FileDoes_h (f r : Nat) : Option Hint := (Ab.look (α := List (Nat × Hint)) [] f).bind fun l => Ab.look l r
theorem law12_FileDoes_ev (k : Nat) (x : (List.foldr Ty.cons .nil [(.cons (.int .i64) (.cons .str (.cons .str .nil))), (.sl .str), (.int .i64)]).den) : evTop Go.Proofs.Try.prog law12_FileDoes_g law12_FileDoes_h 20 k 3 (argAVs [(.cons (.int .i64) (.cons .str (.cons .str .nil))), (.sl .str), (.int .i64)] x) [.bool] = law12_FileDoes k x.1 x.2.1 x.2.2.1 := by kernel_rfl
theorem law12_FileDoes_ok (k : Nat) : FnOk Go.Proofs.Try.prog 3 (law12_FileDoes_sig k) := fn_ok' (Γ := law12_FileDoes_g) (H := law12_FileDoes_h) (fun k => (.cons (ref12_Big_ok k) (.cons (law12_far_ok k) (.cons (ref01_OwnTexts_ok k) (.cons (file_Add_ok k) (.cons (ref12_Add_ok k) (.cons (file_Sync_ok k) (.cons (ref12_Sync_ok k) (.cons (file_Crash_ok k) (.cons (ref12_Crash_ok k) (.cons (file_Cut_ok k) (.cons (ref12_Cut_ok k) (.cons (file_New_ok k) (.cons (ref12_New_ok k) (.cons (law12_filed_ok k) (.cons (file_Is_ok k) (.cons (ref12_Is_ok k) (.cons (file_Read_ok k) (.cons (ref12_Read_ok k) (.cons (ref01_Texts_ok k) GOk.nil)))))))))))))))))))) (by kernel_rfl) (by kernel_rfl) (law12_FileDoes_ev k)
end Go.Proofs.Ytaadndikbecdbaa.A
