/- PRINTED BY resid.py (ours): each function's calls come to what is printed of it. -/
import Derived.Test.YtbllbljligmglaaFnSlots
import Derived.Test.YtbllbljligmglaaAbG
import Derived.Test.YtbllbljligmglaaProg
import Derived.Test.YtbllbljligmglaaAHSum
import Derived.Test.YtbllbljligmglaaAHInts
namespace Go.Proofs.Ytbllbljligmglaa.A
open Go Go.Proofs.Ytbllbljligmglaa.Ab
set_option linter.unusedVariables false
set_option maxRecDepth 100000
def ref12_Big_sig (k : Nat) : Sig := ⟨[(.cons (.int .i64) (.cons .str (.cons .str .nil)))], [.bool], fun x => ref12_Big k x.1⟩
def ref12_Big_g (k : Nat) : FuncId → Option Sig := Ab.look []
def ref12_Big_h (f r : Nat) : Option Hint := (Ab.look (α := List (Nat × Hint)) [] f).bind fun l => Ab.look l r
theorem ref12_Big_ev (k : Nat) (x : (List.foldr Ty.cons .nil [(.cons (.int .i64) (.cons .str (.cons .str .nil)))]).den) : evTop Go.Proofs.Try.prog ref12_Big_g ref12_Big_h 20 k 54 (argAVs [(.cons (.int .i64) (.cons .str (.cons .str .nil)))] x) [.bool] = ref12_Big k x.1 := by kernel_rfl
theorem ref12_Big_ok (k : Nat) : FnOk Go.Proofs.Try.prog 54 (ref12_Big_sig k) := fn_ok' (Γ := ref12_Big_g) (H := ref12_Big_h) (fun k => GOk.nil) (by kernel_rfl) (by kernel_rfl) (ref12_Big_ev k)
def ref15_Big_sig (k : Nat) : Sig := ⟨[(.cons (.int .i64) (.cons .str (.cons .str (.cons (.int .i64) (.cons .str (.cons .str .nil))))))], [.bool], fun x => ref15_Big k x.1⟩
def ref15_Big_g (k : Nat) : FuncId → Option Sig := Ab.look [(54, ref12_Big_sig k)]
def ref15_Big_h (f r : Nat) : Option Hint := (Ab.look (α := List (Nat × Hint)) [] f).bind fun l => Ab.look l r
theorem ref15_Big_ev (k : Nat) (x : (List.foldr Ty.cons .nil [(.cons (.int .i64) (.cons .str (.cons .str (.cons (.int .i64) (.cons .str (.cons .str .nil))))))]).den) : evTop Go.Proofs.Try.prog ref15_Big_g ref15_Big_h 20 k 44 (argAVs [(.cons (.int .i64) (.cons .str (.cons .str (.cons (.int .i64) (.cons .str (.cons .str .nil))))))] x) [.bool] = ref15_Big k x.1 := by kernel_rfl
theorem ref15_Big_ok (k : Nat) : FnOk Go.Proofs.Try.prog 44 (ref15_Big_sig k) := fn_ok' (Γ := ref15_Big_g) (H := ref15_Big_h) (fun k => (.cons (ref12_Big_ok k) GOk.nil)) (by kernel_rfl) (by kernel_rfl) (ref15_Big_ev k)
def law15_far_sig (k : Nat) : Sig := ⟨[(.cons (.int .i64) (.cons .str (.cons .str (.cons (.int .i64) (.cons .str (.cons .str .nil)))))), .str], [.bool], fun x => law15_far k x.1 x.2.1⟩
def law15_far_g (k : Nat) : FuncId → Option Sig := Ab.look [(44, ref15_Big_sig k)]
def law15_far_h (f r : Nat) : Option Hint := (Ab.look (α := List (Nat × Hint)) [] f).bind fun l => Ab.look l r
theorem law15_far_ev (k : Nat) (x : (List.foldr Ty.cons .nil [(.cons (.int .i64) (.cons .str (.cons .str (.cons (.int .i64) (.cons .str (.cons .str .nil)))))), .str]).den) : evTop Go.Proofs.Try.prog law15_far_g law15_far_h 20 k 13 (argAVs [(.cons (.int .i64) (.cons .str (.cons .str (.cons (.int .i64) (.cons .str (.cons .str .nil)))))), .str] x) [.bool] = law15_far k x.1 x.2.1 := by kernel_rfl
theorem law15_far_ok (k : Nat) : FnOk Go.Proofs.Try.prog 13 (law15_far_sig k) := fn_ok' (Γ := law15_far_g) (H := law15_far_h) (fun k => (.cons (ref15_Big_ok k) GOk.nil)) (by kernel_rfl) (by kernel_rfl) (law15_far_ev k)
def file_bytes_all_sig (k : Nat) : Sig := ⟨[(.cons (.int .i64) (.cons .str (.cons .str .nil)))], [.str], fun x => file_bytes_all k x.1⟩
def file_bytes_all_g (k : Nat) : FuncId → Option Sig := Ab.look []
def file_bytes_all_h (f r : Nat) : Option Hint := (Ab.look (α := List (Nat × Hint)) [] f).bind fun l => Ab.look l r
theorem file_bytes_all_ev (k : Nat) (x : (List.foldr Ty.cons .nil [(.cons (.int .i64) (.cons .str (.cons .str .nil)))]).den) : evTop Go.Proofs.Try.prog file_bytes_all_g file_bytes_all_h 20 k 67 (argAVs [(.cons (.int .i64) (.cons .str (.cons .str .nil)))] x) [.str] = file_bytes_all k x.1 := by kernel_rfl
theorem file_bytes_all_ok (k : Nat) : FnOk Go.Proofs.Try.prog 67 (file_bytes_all_sig k) := fn_ok' (Γ := file_bytes_all_g) (H := file_bytes_all_h) (fun k => GOk.nil) (by kernel_rfl) (by kernel_rfl) (file_bytes_all_ev k)
def file_bytes_may_sig (k : Nat) : Sig := ⟨[(.cons (.int .i64) (.cons .str (.cons .str .nil)))], [.bool], fun x => file_bytes_may k x.1⟩
def file_bytes_may_g (k : Nat) : FuncId → Option Sig := Ab.look [(67, file_bytes_all_sig k)]
def file_bytes_may_h (f r : Nat) : Option Hint := (Ab.look (α := List (Nat × Hint)) [] f).bind fun l => Ab.look l r
theorem file_bytes_may_ev (k : Nat) (x : (List.foldr Ty.cons .nil [(.cons (.int .i64) (.cons .str (.cons .str .nil)))]).den) : evTop Go.Proofs.Try.prog file_bytes_may_g file_bytes_may_h 20 k 68 (argAVs [(.cons (.int .i64) (.cons .str (.cons .str .nil)))] x) [.bool] = file_bytes_may k x.1 := by kernel_rfl
theorem file_bytes_may_ok (k : Nat) : FnOk Go.Proofs.Try.prog 68 (file_bytes_may_sig k) := fn_ok' (Γ := file_bytes_may_g) (H := file_bytes_may_h) (fun k => (.cons (file_bytes_all_ok k) GOk.nil)) (by kernel_rfl) (by kernel_rfl) (file_bytes_may_ev k)
def file_Is_sig (k : Nat) : Sig := ⟨[(.cons (.int .i64) (.cons .str (.cons .str .nil)))], [.bool], fun x => file_Is k x.1⟩
def file_Is_g (k : Nat) : FuncId → Option Sig := Ab.look [(68, file_bytes_may_sig k)]
def file_Is_h (f r : Nat) : Option Hint := (Ab.look (α := List (Nat × Hint)) [] f).bind fun l => Ab.look l r
theorem file_Is_ev (k : Nat) (x : (List.foldr Ty.cons .nil [(.cons (.int .i64) (.cons .str (.cons .str .nil)))]).den) : evTop Go.Proofs.Try.prog file_Is_g file_Is_h 20 k 41 (argAVs [(.cons (.int .i64) (.cons .str (.cons .str .nil)))] x) [.bool] = file_Is k x.1 := by kernel_rfl
theorem file_Is_ok (k : Nat) : FnOk Go.Proofs.Try.prog 41 (file_Is_sig k) := fn_ok' (Γ := file_Is_g) (H := file_Is_h) (fun k => (.cons (file_bytes_may_ok k) GOk.nil)) (by kernel_rfl) (by kernel_rfl) (file_Is_ev k)
def file_Read_sig (k : Nat) : Sig := ⟨[(.cons (.int .i64) (.cons .str (.cons .str .nil)))], [.str], fun x => file_Read k x.1⟩
def file_Read_g (k : Nat) : FuncId → Option Sig := Ab.look [(67, file_bytes_all_sig k)]
def file_Read_h (f r : Nat) : Option Hint := (Ab.look (α := List (Nat × Hint)) [] f).bind fun l => Ab.look l r
theorem file_Read_ev (k : Nat) (x : (List.foldr Ty.cons .nil [(.cons (.int .i64) (.cons .str (.cons .str .nil)))]).den) : evTop Go.Proofs.Try.prog file_Read_g file_Read_h 20 k 40 (argAVs [(.cons (.int .i64) (.cons .str (.cons .str .nil)))] x) [.str] = file_Read k x.1 := by kernel_rfl
theorem file_Read_ok (k : Nat) : FnOk Go.Proofs.Try.prog 40 (file_Read_sig k) := fn_ok' (Γ := file_Read_g) (H := file_Read_h) (fun k => (.cons (file_bytes_all_ok k) GOk.nil)) (by kernel_rfl) (by kernel_rfl) (file_Read_ev k)
def wire_GetInt_sig (k : Nat) : Sig := ⟨[.str], [(.int .i64), .str, (.int .i64)], fun x => wire_GetInt k x.1⟩
def wire_GetInt_g (k : Nat) : FuncId → Option Sig := Ab.look []
def wire_GetInt_h (f r : Nat) : Option Hint := (Ab.look (α := List (Nat × Hint)) [(79, [(3, ⟨[.tmp 5 (.int .i64), .tmp 11 (.int .i64)], [12, 13, 6, 14, 15, 16, 17, 18, 19]⟩), (14, ⟨[.tmp 2 (.int .i64), .tmp 3 .str, .tmp 4 (.int .i64), .tmp 7 (.int .i64), .tmp 8 (.int .i64)], [28, 29, 32, 33, 34, 35, 36, 37, 38, 39, 40, 41, 42, 43, 44, 45, 46, 47, 48, 49, 50, 51, 52, 53, 54, 30, 31]⟩)])] f).bind fun l => Ab.look l r
theorem wire_GetInt_ev (k : Nat) (x : (List.foldr Ty.cons .nil [.str]).den) : evTop Go.Proofs.Try.prog wire_GetInt_g wire_GetInt_h 20 k 79 (argAVs [.str] x) [(.int .i64), .str, (.int .i64)] = wire_GetInt k x.1 := by kernel_rfl
theorem wire_GetInt_ok (k : Nat) : FnOk Go.Proofs.Try.prog 79 (wire_GetInt_sig k) := fn_ok' (Γ := wire_GetInt_g) (H := wire_GetInt_h) (fun k => GOk.nil) (by kernel_rfl) (by kernel_rfl) (wire_GetInt_ev k)
def wire_GetText_sig (k : Nat) : Sig := ⟨[.str], [.str, .str, (.int .i64)], fun x => wire_GetText k x.1⟩
def wire_GetText_g (k : Nat) : FuncId → Option Sig := Ab.look [(79, wire_GetInt_sig k)]
def wire_GetText_h (f r : Nat) : Option Hint := (Ab.look (α := List (Nat × Hint)) [] f).bind fun l => Ab.look l r
theorem wire_GetText_ev (k : Nat) (x : (List.foldr Ty.cons .nil [.str]).den) : evTop Go.Proofs.Try.prog wire_GetText_g wire_GetText_h 20 k 98 (argAVs [.str] x) [.str, .str, (.int .i64)] = wire_GetText k x.1 := by kernel_rfl
theorem wire_GetText_ok (k : Nat) : FnOk Go.Proofs.Try.prog 98 (wire_GetText_sig k) := fn_ok' (Γ := wire_GetText_g) (H := wire_GetText_h) (fun k => (.cons (wire_GetInt_ok k) GOk.nil)) (by kernel_rfl) (by kernel_rfl) (wire_GetText_ev k)
def frame_Get_sig (k : Nat) : Sig := ⟨[.str], [(.int .i64), .str, .str, (.int .i64)], fun x => frame_Get k x.1⟩
def frame_Get_g (k : Nat) : FuncId → Option Sig := Ab.look [(89, sum_Of_sig k), (79, wire_GetInt_sig k), (98, wire_GetText_sig k)]
def frame_Get_h (f r : Nat) : Option Hint := (Ab.look (α := List (Nat × Hint)) [] f).bind fun l => Ab.look l r
theorem frame_Get_ev (k : Nat) (x : (List.foldr Ty.cons .nil [.str]).den) : evTop Go.Proofs.Try.prog frame_Get_g frame_Get_h 20 k 78 (argAVs [.str] x) [(.int .i64), .str, .str, (.int .i64)] = frame_Get k x.1 := by kernel_rfl
theorem frame_Get_ok (k : Nat) : FnOk Go.Proofs.Try.prog 78 (frame_Get_sig k) := fn_ok' (Γ := frame_Get_g) (H := frame_Get_h) (fun k => (.cons (sum_Of_ok k) (.cons (wire_GetInt_ok k) (.cons (wire_GetText_ok k) GOk.nil)))) (by kernel_rfl) (by kernel_rfl) (frame_Get_ev k)
def slots_read_sig (k : Nat) : Sig := ⟨[.str], [(.cons (.int .i64) (.cons .str .nil)), .bool], fun x => slots_read k x.1⟩
def slots_read_g (k : Nat) : FuncId → Option Sig := Ab.look [(78, frame_Get_sig k), (79, wire_GetInt_sig k)]
def slots_read_h (f r : Nat) : Option Hint := (Ab.look (α := List (Nat × Hint)) [] f).bind fun l => Ab.look l r
theorem slots_read_ev (k : Nat) (x : (List.foldr Ty.cons .nil [.str]).den) : evTop Go.Proofs.Try.prog slots_read_g slots_read_h 20 k 71 (argAVs [.str] x) [(.cons (.int .i64) (.cons .str .nil)), .bool] = slots_read k x.1 := by kernel_rfl
theorem slots_read_ok (k : Nat) : FnOk Go.Proofs.Try.prog 71 (slots_read_sig k) := fn_ok' (Γ := slots_read_g) (H := slots_read_h) (fun k => (.cons (frame_Get_ok k) (.cons (wire_GetInt_ok k) GOk.nil))) (by kernel_rfl) (by kernel_rfl) (slots_read_ev k)
def slots_better_sig (k : Nat) : Sig := ⟨[(.cons .str (.cons .str .nil))], [(.cons (.int .i64) (.cons .str (.cons (.int .i64) .nil)))], fun x => slots_better k x.1⟩
def slots_better_g (k : Nat) : FuncId → Option Sig := Ab.look [(71, slots_read_sig k)]
def slots_better_h (f r : Nat) : Option Hint := (Ab.look (α := List (Nat × Hint)) [(51, [(3, ⟨[.tmp 10 (.int .i64), .box 3 (.cons (.int .i64) (.cons .str (.cons (.int .i64) .nil)))], [11, 12, 13, 4, 5, 15, 16, 14, 17, 18, 6, 7, 19, 20, 21, 22, 23, 24, 25, 26, 27, 28, 29, 30, 31]⟩)])] f).bind fun l => Ab.look l r
theorem slots_better_ev (k : Nat) (x : (List.foldr Ty.cons .nil [(.cons .str (.cons .str .nil))]).den) : evTop Go.Proofs.Try.prog slots_better_g slots_better_h 20 k 51 (argAVs [(.cons .str (.cons .str .nil))] x) [(.cons (.int .i64) (.cons .str (.cons (.int .i64) .nil)))] = slots_better k x.1 := by kernel_rfl
theorem slots_better_ok (k : Nat) : FnOk Go.Proofs.Try.prog 51 (slots_better_sig k) := fn_ok' (Γ := slots_better_g) (H := slots_better_h) (fun k => (.cons (slots_read_ok k) GOk.nil)) (by kernel_rfl) (by kernel_rfl) (slots_better_ev k)
def slots_open_sig (k : Nat) : Sig := ⟨[(.cons (.int .i64) (.cons .str (.cons .str (.cons (.int .i64) (.cons .str (.cons .str .nil))))))], [(.cons (.int .i64) (.cons .str (.cons (.int .i64) .nil))), (.int .i64)], fun x => slots_open k x.1⟩
def slots_open_g (k : Nat) : FuncId → Option Sig := Ab.look [(41, file_Is_sig k), (40, file_Read_sig k), (51, slots_better_sig k)]
def slots_open_h (f r : Nat) : Option Hint := (Ab.look (α := List (Nat × Hint)) [] f).bind fun l => Ab.look l r
theorem slots_open_ev (k : Nat) (x : (List.foldr Ty.cons .nil [(.cons (.int .i64) (.cons .str (.cons .str (.cons (.int .i64) (.cons .str (.cons .str .nil))))))]).den) : evTop Go.Proofs.Try.prog slots_open_g slots_open_h 20 k 45 (argAVs [(.cons (.int .i64) (.cons .str (.cons .str (.cons (.int .i64) (.cons .str (.cons .str .nil))))))] x) [(.cons (.int .i64) (.cons .str (.cons (.int .i64) .nil))), (.int .i64)] = slots_open k x.1 := by kernel_rfl
theorem slots_open_ok (k : Nat) : FnOk Go.Proofs.Try.prog 45 (slots_open_sig k) := fn_ok' (Γ := slots_open_g) (H := slots_open_h) (fun k => (.cons (file_Is_ok k) (.cons (file_Read_ok k) (.cons (slots_better_ok k) GOk.nil)))) (by kernel_rfl) (by kernel_rfl) (slots_open_ev k)
def slots_Load_sig (k : Nat) : Sig := ⟨[(.cons (.int .i64) (.cons .str (.cons .str (.cons (.int .i64) (.cons .str (.cons .str .nil))))))], [.str, (.int .i64), (.int .i64)], fun x => slots_Load k x.1⟩
def slots_Load_g (k : Nat) : FuncId → Option Sig := Ab.look [(45, slots_open_sig k)]
def slots_Load_h (f r : Nat) : Option Hint := (Ab.look (α := List (Nat × Hint)) [] f).bind fun l => Ab.look l r
theorem slots_Load_ev (k : Nat) (x : (List.foldr Ty.cons .nil [(.cons (.int .i64) (.cons .str (.cons .str (.cons (.int .i64) (.cons .str (.cons .str .nil))))))]).den) : evTop Go.Proofs.Try.prog slots_Load_g slots_Load_h 20 k 14 (argAVs [(.cons (.int .i64) (.cons .str (.cons .str (.cons (.int .i64) (.cons .str (.cons .str .nil))))))] x) [.str, (.int .i64), (.int .i64)] = slots_Load k x.1 := by kernel_rfl
theorem slots_Load_ok (k : Nat) : FnOk Go.Proofs.Try.prog 14 (slots_Load_sig k) := fn_ok' (Γ := slots_Load_g) (H := slots_Load_h) (fun k => (.cons (slots_open_ok k) GOk.nil)) (by kernel_rfl) (by kernel_rfl) (slots_Load_ev k)
def wire_Int_sig (k : Nat) : Sig := ⟨[(.int .i64)], [.str, (.int .i64)], fun x => wire_Int k x.1⟩
def wire_Int_g (k : Nat) : FuncId → Option Sig := Ab.look [(72, wire_Ints_sig k)]
def wire_Int_h (f r : Nat) : Option Hint := (Ab.look (α := List (Nat × Hint)) [] f).bind fun l => Ab.look l r
theorem wire_Int_ev (k : Nat) (x : (List.foldr Ty.cons .nil [(.int .i64)]).den) : evTop Go.Proofs.Try.prog wire_Int_g wire_Int_h 20 k 55 (argAVs [(.int .i64)] x) [.str, (.int .i64)] = wire_Int k x.1 := by kernel_rfl
theorem wire_Int_ok (k : Nat) : FnOk Go.Proofs.Try.prog 55 (wire_Int_sig k) := fn_ok' (Γ := wire_Int_g) (H := wire_Int_h) (fun k => (.cons (wire_Ints_ok k) GOk.nil)) (by kernel_rfl) (by kernel_rfl) (wire_Int_ev k)
def wire_Text_sig (k : Nat) : Sig := ⟨[.str], [.str, (.int .i64)], fun x => wire_Text k x.1⟩
def wire_Text_g (k : Nat) : FuncId → Option Sig := Ab.look [(55, wire_Int_sig k)]
def wire_Text_h (f r : Nat) : Option Hint := (Ab.look (α := List (Nat × Hint)) [] f).bind fun l => Ab.look l r
theorem wire_Text_ev (k : Nat) (x : (List.foldr Ty.cons .nil [.str]).den) : evTop Go.Proofs.Try.prog wire_Text_g wire_Text_h 20 k 73 (argAVs [.str] x) [.str, (.int .i64)] = wire_Text k x.1 := by kernel_rfl
theorem wire_Text_ok (k : Nat) : FnOk Go.Proofs.Try.prog 73 (wire_Text_sig k) := fn_ok' (Γ := wire_Text_g) (H := wire_Text_h) (fun k => (.cons (wire_Int_ok k) GOk.nil)) (by kernel_rfl) (by kernel_rfl) (wire_Text_ev k)
def frame_Put_sig (k : Nat) : Sig := ⟨[(.int .i64), .str], [.str, (.int .i64)], fun x => frame_Put k x.1 x.2.1⟩
def frame_Put_g (k : Nat) : FuncId → Option Sig := Ab.look [(73, wire_Text_sig k), (55, wire_Int_sig k), (74, sum_Over_sig k)]
def frame_Put_h (f r : Nat) : Option Hint := (Ab.look (α := List (Nat × Hint)) [] f).bind fun l => Ab.look l r
theorem frame_Put_ev (k : Nat) (x : (List.foldr Ty.cons .nil [(.int .i64), .str]).den) : evTop Go.Proofs.Try.prog frame_Put_g frame_Put_h 20 k 56 (argAVs [(.int .i64), .str] x) [.str, (.int .i64)] = frame_Put k x.1 x.2.1 := by kernel_rfl
theorem frame_Put_ok (k : Nat) : FnOk Go.Proofs.Try.prog 56 (frame_Put_sig k) := fn_ok' (Γ := frame_Put_g) (H := frame_Put_h) (fun k => (.cons (wire_Text_ok k) (.cons (wire_Int_ok k) (.cons (sum_Over_ok k) GOk.nil)))) (by kernel_rfl) (by kernel_rfl) (frame_Put_ev k)
def slots_note_bytes_sig (k : Nat) : Sig := ⟨[(.cons (.int .i64) (.cons .str .nil))], [.str], fun x => slots_note_bytes k x.1⟩
def slots_note_bytes_g (k : Nat) : FuncId → Option Sig := Ab.look [(55, wire_Int_sig k), (56, frame_Put_sig k)]
def slots_note_bytes_h (f r : Nat) : Option Hint := (Ab.look (α := List (Nat × Hint)) [] f).bind fun l => Ab.look l r
theorem slots_note_bytes_ev (k : Nat) (x : (List.foldr Ty.cons .nil [(.cons (.int .i64) (.cons .str .nil))]).den) : evTop Go.Proofs.Try.prog slots_note_bytes_g slots_note_bytes_h 20 k 46 (argAVs [(.cons (.int .i64) (.cons .str .nil))] x) [.str] = slots_note_bytes k x.1 := by kernel_rfl
theorem slots_note_bytes_ok (k : Nat) : FnOk Go.Proofs.Try.prog 46 (slots_note_bytes_sig k) := fn_ok' (Γ := slots_note_bytes_g) (H := slots_note_bytes_h) (fun k => (.cons (wire_Int_ok k) (.cons (frame_Put_ok k) GOk.nil))) (by kernel_rfl) (by kernel_rfl) (slots_note_bytes_ev k)
def file_right_sig (k : Nat) : Sig := ⟨[(.cons (.int .i64) (.cons .str (.cons .str .nil)))], [(.cons (.int .i64) (.cons .str (.cons .str .nil))), (.int .i64)], fun x => file_right k x.1⟩
def file_right_g (k : Nat) : FuncId → Option Sig := Ab.look [(68, file_bytes_may_sig k)]
def file_right_h (f r : Nat) : Option Hint := (Ab.look (α := List (Nat × Hint)) [] f).bind fun l => Ab.look l r
theorem file_right_ev (k : Nat) (x : (List.foldr Ty.cons .nil [(.cons (.int .i64) (.cons .str (.cons .str .nil)))]).den) : evTop Go.Proofs.Try.prog file_right_g file_right_h 20 k 69 (argAVs [(.cons (.int .i64) (.cons .str (.cons .str .nil)))] x) [(.cons (.int .i64) (.cons .str (.cons .str .nil))), (.int .i64)] = file_right k x.1 := by kernel_rfl
theorem file_right_ok (k : Nat) : FnOk Go.Proofs.Try.prog 69 (file_right_sig k) := fn_ok' (Γ := file_right_g) (H := file_right_h) (fun k => (.cons (file_bytes_may_ok k) GOk.nil)) (by kernel_rfl) (by kernel_rfl) (file_right_ev k)
def file_bytes_kept_sig (k : Nat) : Sig := ⟨[(.cons (.int .i64) (.cons .str (.cons .str .nil))), (.int .i64)], [(.cons (.int .i64) (.cons .str (.cons .str .nil)))], fun x => file_bytes_kept k x.1 x.2.1⟩
def file_bytes_kept_g (k : Nat) : FuncId → Option Sig := Ab.look [(67, file_bytes_all_sig k)]
def file_bytes_kept_h (f r : Nat) : Option Hint := (Ab.look (α := List (Nat × Hint)) [] f).bind fun l => Ab.look l r
theorem file_bytes_kept_ev (k : Nat) (x : (List.foldr Ty.cons .nil [(.cons (.int .i64) (.cons .str (.cons .str .nil))), (.int .i64)]).den) : evTop Go.Proofs.Try.prog file_bytes_kept_g file_bytes_kept_h 20 k 70 (argAVs [(.cons (.int .i64) (.cons .str (.cons .str .nil))), (.int .i64)] x) [(.cons (.int .i64) (.cons .str (.cons .str .nil)))] = file_bytes_kept k x.1 x.2.1 := by kernel_rfl
theorem file_bytes_kept_ok (k : Nat) : FnOk Go.Proofs.Try.prog 70 (file_bytes_kept_sig k) := fn_ok' (Γ := file_bytes_kept_g) (H := file_bytes_kept_h) (fun k => (.cons (file_bytes_all_ok k) GOk.nil)) (by kernel_rfl) (by kernel_rfl) (file_bytes_kept_ev k)
def file_Sync_sig (k : Nat) : Sig := ⟨[(.cons (.int .i64) (.cons .str (.cons .str .nil)))], [(.cons (.int .i64) (.cons .str (.cons .str .nil))), (.int .i64)], fun x => file_Sync k x.1⟩
def file_Sync_g (k : Nat) : FuncId → Option Sig := Ab.look [(69, file_right_sig k), (67, file_bytes_all_sig k), (70, file_bytes_kept_sig k)]
def file_Sync_h (f r : Nat) : Option Hint := (Ab.look (α := List (Nat × Hint)) [] f).bind fun l => Ab.look l r
theorem file_Sync_ev (k : Nat) (x : (List.foldr Ty.cons .nil [(.cons (.int .i64) (.cons .str (.cons .str .nil)))]).den) : evTop Go.Proofs.Try.prog file_Sync_g file_Sync_h 20 k 42 (argAVs [(.cons (.int .i64) (.cons .str (.cons .str .nil)))] x) [(.cons (.int .i64) (.cons .str (.cons .str .nil))), (.int .i64)] = file_Sync k x.1 := by kernel_rfl
theorem file_Sync_ok (k : Nat) : FnOk Go.Proofs.Try.prog 42 (file_Sync_sig k) := fn_ok' (Γ := file_Sync_g) (H := file_Sync_h) (fun k => (.cons (file_right_ok k) (.cons (file_bytes_all_ok k) (.cons (file_bytes_kept_ok k) GOk.nil)))) (by kernel_rfl) (by kernel_rfl) (file_Sync_ev k)
def slots_Save_sig (k : Nat) : Sig := ⟨[(.cons (.int .i64) (.cons .str (.cons .str (.cons (.int .i64) (.cons .str (.cons .str .nil)))))), .str, (.int .i64)], [(.cons (.int .i64) (.cons .str (.cons .str (.cons (.int .i64) (.cons .str (.cons .str .nil)))))), .bool, (.int .i64)], fun x => slots_Save k x.1 x.2.1 x.2.2.1⟩
def slots_Save_g (k : Nat) : FuncId → Option Sig := Ab.look [(45, slots_open_sig k), (46, slots_note_bytes_sig k), (42, file_Sync_sig k)]
def slots_Save_h (f r : Nat) : Option Hint := (Ab.look (α := List (Nat × Hint)) [] f).bind fun l => Ab.look l r
theorem slots_Save_ev (k : Nat) (x : (List.foldr Ty.cons .nil [(.cons (.int .i64) (.cons .str (.cons .str (.cons (.int .i64) (.cons .str (.cons .str .nil)))))), .str, (.int .i64)]).den) : evTop Go.Proofs.Try.prog slots_Save_g slots_Save_h 20 k 15 (argAVs [(.cons (.int .i64) (.cons .str (.cons .str (.cons (.int .i64) (.cons .str (.cons .str .nil)))))), .str, (.int .i64)] x) [(.cons (.int .i64) (.cons .str (.cons .str (.cons (.int .i64) (.cons .str (.cons .str .nil)))))), .bool, (.int .i64)] = slots_Save k x.1 x.2.1 x.2.2.1 := by kernel_rfl
theorem slots_Save_ok (k : Nat) : FnOk Go.Proofs.Try.prog 15 (slots_Save_sig k) := fn_ok' (Γ := slots_Save_g) (H := slots_Save_h) (fun k => (.cons (slots_open_ok k) (.cons (slots_note_bytes_ok k) (.cons (file_Sync_ok k) GOk.nil)))) (by kernel_rfl) (by kernel_rfl) (slots_Save_ev k)
def file_New_sig (k : Nat) : Sig := ⟨[(.int .i64)], [(.cons (.int .i64) (.cons .str (.cons .str .nil))), (.int .i64)], fun x => file_New k x.1⟩
def file_New_g (k : Nat) : FuncId → Option Sig := Ab.look []
def file_New_h (f r : Nat) : Option Hint := (Ab.look (α := List (Nat × Hint)) [] f).bind fun l => Ab.look l r
theorem file_New_ev (k : Nat) (x : (List.foldr Ty.cons .nil [(.int .i64)]).den) : evTop Go.Proofs.Try.prog file_New_g file_New_h 20 k 39 (argAVs [(.int .i64)] x) [(.cons (.int .i64) (.cons .str (.cons .str .nil))), (.int .i64)] = file_New k x.1 := by kernel_rfl
theorem file_New_ok (k : Nat) : FnOk Go.Proofs.Try.prog 39 (file_New_sig k) := fn_ok' (Γ := file_New_g) (H := file_New_h) (fun k => GOk.nil) (by kernel_rfl) (by kernel_rfl) (file_New_ev k)
def slots_New_sig (k : Nat) : Sig := ⟨[(.int .i64)], [(.cons (.int .i64) (.cons .str (.cons .str (.cons (.int .i64) (.cons .str (.cons .str .nil)))))), (.int .i64)], fun x => slots_New k x.1⟩
def slots_New_g (k : Nat) : FuncId → Option Sig := Ab.look [(39, file_New_sig k)]
def slots_New_h (f r : Nat) : Option Hint := (Ab.look (α := List (Nat × Hint)) [] f).bind fun l => Ab.look l r
theorem slots_New_ev (k : Nat) (x : (List.foldr Ty.cons .nil [(.int .i64)]).den) : evTop Go.Proofs.Try.prog slots_New_g slots_New_h 20 k 18 (argAVs [(.int .i64)] x) [(.cons (.int .i64) (.cons .str (.cons .str (.cons (.int .i64) (.cons .str (.cons .str .nil)))))), (.int .i64)] = slots_New k x.1 := by kernel_rfl
theorem slots_New_ok (k : Nat) : FnOk Go.Proofs.Try.prog 18 (slots_New_sig k) := fn_ok' (Γ := slots_New_g) (H := slots_New_h) (fun k => (.cons (file_New_ok k) GOk.nil)) (by kernel_rfl) (by kernel_rfl) (slots_New_ev k)
def file_Crash_sig (k : Nat) : Sig := ⟨[(.cons (.int .i64) (.cons .str (.cons .str .nil))), (.int .i64)], [(.cons (.int .i64) (.cons .str (.cons .str .nil))), (.int .i64)], fun x => file_Crash k x.1 x.2.1⟩
def file_Crash_g (k : Nat) : FuncId → Option Sig := Ab.look [(69, file_right_sig k), (70, file_bytes_kept_sig k)]
def file_Crash_h (f r : Nat) : Option Hint := (Ab.look (α := List (Nat × Hint)) [] f).bind fun l => Ab.look l r
theorem file_Crash_ev (k : Nat) (x : (List.foldr Ty.cons .nil [(.cons (.int .i64) (.cons .str (.cons .str .nil))), (.int .i64)]).den) : evTop Go.Proofs.Try.prog file_Crash_g file_Crash_h 20 k 43 (argAVs [(.cons (.int .i64) (.cons .str (.cons .str .nil))), (.int .i64)] x) [(.cons (.int .i64) (.cons .str (.cons .str .nil))), (.int .i64)] = file_Crash k x.1 x.2.1 := by kernel_rfl
theorem file_Crash_ok (k : Nat) : FnOk Go.Proofs.Try.prog 43 (file_Crash_sig k) := fn_ok' (Γ := file_Crash_g) (H := file_Crash_h) (fun k => (.cons (file_right_ok k) (.cons (file_bytes_kept_ok k) GOk.nil))) (by kernel_rfl) (by kernel_rfl) (file_Crash_ev k)
def slots_Crash_sig (k : Nat) : Sig := ⟨[(.cons (.int .i64) (.cons .str (.cons .str (.cons (.int .i64) (.cons .str (.cons .str .nil)))))), (.int .i64)], [(.cons (.int .i64) (.cons .str (.cons .str (.cons (.int .i64) (.cons .str (.cons .str .nil)))))), (.int .i64)], fun x => slots_Crash k x.1 x.2.1⟩
def slots_Crash_g (k : Nat) : FuncId → Option Sig := Ab.look [(45, slots_open_sig k), (43, file_Crash_sig k)]
def slots_Crash_h (f r : Nat) : Option Hint := (Ab.look (α := List (Nat × Hint)) [] f).bind fun l => Ab.look l r
theorem slots_Crash_ev (k : Nat) (x : (List.foldr Ty.cons .nil [(.cons (.int .i64) (.cons .str (.cons .str (.cons (.int .i64) (.cons .str (.cons .str .nil)))))), (.int .i64)]).den) : evTop Go.Proofs.Try.prog slots_Crash_g slots_Crash_h 20 k 17 (argAVs [(.cons (.int .i64) (.cons .str (.cons .str (.cons (.int .i64) (.cons .str (.cons .str .nil)))))), (.int .i64)] x) [(.cons (.int .i64) (.cons .str (.cons .str (.cons (.int .i64) (.cons .str (.cons .str .nil)))))), (.int .i64)] = slots_Crash k x.1 x.2.1 := by kernel_rfl
theorem slots_Crash_ok (k : Nat) : FnOk Go.Proofs.Try.prog 17 (slots_Crash_sig k) := fn_ok' (Γ := slots_Crash_g) (H := slots_Crash_h) (fun k => (.cons (slots_open_ok k) (.cons (file_Crash_ok k) GOk.nil))) (by kernel_rfl) (by kernel_rfl) (slots_Crash_ev k)
def law15_slotted_sig (k : Nat) : Sig := ⟨[], [.bool], fun x => law15_slotted k⟩
def law15_slotted_g (k : Nat) : FuncId → Option Sig := Ab.look [(18, slots_New_sig k), (14, slots_Load_sig k), (15, slots_Save_sig k), (17, slots_Crash_sig k)]
def law15_slotted_h (f r : Nat) : Option Hint := (Ab.look (α := List (Nat × Hint)) [] f).bind fun l => Ab.look l r
theorem law15_slotted_ev (k : Nat) (x : (List.foldr Ty.cons .nil []).den) : evTop Go.Proofs.Try.prog law15_slotted_g law15_slotted_h 20 k 16 (argAVs [] x) [.bool] = law15_slotted k := by kernel_rfl
theorem law15_slotted_ok (k : Nat) : FnOk Go.Proofs.Try.prog 16 (law15_slotted_sig k) := fn_ok' (Γ := law15_slotted_g) (H := law15_slotted_h) (fun k => (.cons (slots_New_ok k) (.cons (slots_Load_ok k) (.cons (slots_Save_ok k) (.cons (slots_Crash_ok k) GOk.nil))))) (by kernel_rfl) (by kernel_rfl) (law15_slotted_ev k)
def law15_SlotsBack_sig (k : Nat) : Sig := ⟨[(.cons (.int .i64) (.cons .str (.cons .str (.cons (.int .i64) (.cons .str (.cons .str .nil)))))), .str], [.bool], fun x => law15_SlotsBack k x.1 x.2.1⟩
def law15_SlotsBack_g (k : Nat) : FuncId → Option Sig := Ab.look [(13, law15_far_sig k), (14, slots_Load_sig k), (15, slots_Save_sig k), (16, law15_slotted_sig k)]
def law15_SlotsBack_h (f r : Nat) : Option Hint := (Ab.look (α := List (Nat × Hint)) [] f).bind fun l => Ab.look l r
theorem law15_SlotsBack_ev (k : Nat) (x : (List.foldr Ty.cons .nil [(.cons (.int .i64) (.cons .str (.cons .str (.cons (.int .i64) (.cons .str (.cons .str .nil)))))), .str]).den) : evTop Go.Proofs.Try.prog law15_SlotsBack_g law15_SlotsBack_h 20 k 3 (argAVs [(.cons (.int .i64) (.cons .str (.cons .str (.cons (.int .i64) (.cons .str (.cons .str .nil)))))), .str] x) [.bool] = law15_SlotsBack k x.1 x.2.1 := by kernel_rfl
theorem law15_SlotsBack_ok (k : Nat) : FnOk Go.Proofs.Try.prog 3 (law15_SlotsBack_sig k) := fn_ok' (Γ := law15_SlotsBack_g) (H := law15_SlotsBack_h) (fun k => (.cons (law15_far_ok k) (.cons (slots_Load_ok k) (.cons (slots_Save_ok k) (.cons (law15_slotted_ok k) GOk.nil))))) (by kernel_rfl) (by kernel_rfl) (law15_SlotsBack_ev k)
def law15_SlotsCrash_sig (k : Nat) : Sig := ⟨[(.cons (.int .i64) (.cons .str (.cons .str (.cons (.int .i64) (.cons .str (.cons .str .nil)))))), .str, (.int .i64), (.int .i64)], [.bool], fun x => law15_SlotsCrash k x.1 x.2.1 x.2.2.1 x.2.2.2.1⟩
def law15_SlotsCrash_g (k : Nat) : FuncId → Option Sig := Ab.look [(13, law15_far_sig k), (14, slots_Load_sig k), (15, slots_Save_sig k), (16, law15_slotted_sig k), (17, slots_Crash_sig k)]
def law15_SlotsCrash_h (f r : Nat) : Option Hint := (Ab.look (α := List (Nat × Hint)) [] f).bind fun l => Ab.look l r
theorem law15_SlotsCrash_ev (k : Nat) (x : (List.foldr Ty.cons .nil [(.cons (.int .i64) (.cons .str (.cons .str (.cons (.int .i64) (.cons .str (.cons .str .nil)))))), .str, (.int .i64), (.int .i64)]).den) : evTop Go.Proofs.Try.prog law15_SlotsCrash_g law15_SlotsCrash_h 20 k 4 (argAVs [(.cons (.int .i64) (.cons .str (.cons .str (.cons (.int .i64) (.cons .str (.cons .str .nil)))))), .str, (.int .i64), (.int .i64)] x) [.bool] = law15_SlotsCrash k x.1 x.2.1 x.2.2.1 x.2.2.2.1 := by kernel_rfl
theorem law15_SlotsCrash_ok (k : Nat) : FnOk Go.Proofs.Try.prog 4 (law15_SlotsCrash_sig k) := fn_ok' (Γ := law15_SlotsCrash_g) (H := law15_SlotsCrash_h) (fun k => (.cons (law15_far_ok k) (.cons (slots_Load_ok k) (.cons (slots_Save_ok k) (.cons (law15_slotted_ok k) (.cons (slots_Crash_ok k) GOk.nil)))))) (by kernel_rfl) (by kernel_rfl) (law15_SlotsCrash_ev k)
def law15_SlotsRow_sig (k : Nat) : Sig := ⟨[(.int .i64), (.sl (.cons .str (.cons (.int .i64) (.cons (.int .i64) .nil))))], [.bool], fun x => law15_SlotsRow k x.1 x.2.1⟩
def law15_SlotsRow_g (k : Nat) : FuncId → Option Sig := Ab.look [(18, slots_New_sig k), (16, law15_slotted_sig k), (15, slots_Save_sig k), (17, slots_Crash_sig k), (14, slots_Load_sig k)]
def law15_SlotsRow_h (f r : Nat) : Option Hint := (Ab.look (α := List (Nat × Hint)) [(5, [(6, ⟨[.tmp 4 .bool, .tmp 7 .str, .tmp 8 (.int .i64), .box 5 (.cons (.int .i64) (.cons .str (.cons .str (.cons (.int .i64) (.cons .str (.cons .str .nil))))))], [34, 35, 36, 37, 40, 41, 42, 43, 9, 44, 45, 46, 47, 48, 50, 51, 52, 53, 54, 55, 49, 56, 57, 58, 10, 11, 12, 59, 60, 62, 63, 64, 65, 61, 66, 67, 13, 14, 69, 70, 68, 71, 72, 73, 15, 16, 17, 74, 75, 76, 77, 78, 79, 80, 81, 82, 83, 84, 85, 86, 87, 88, 89, 90, 91, 92, 93, 94, 95, 38, 39]⟩)])] f).bind fun l => Ab.look l r
theorem law15_SlotsRow_ev (k : Nat) (x : (List.foldr Ty.cons .nil [(.int .i64), (.sl (.cons .str (.cons (.int .i64) (.cons (.int .i64) .nil))))]).den) : evTop Go.Proofs.Try.prog law15_SlotsRow_g law15_SlotsRow_h 20 k 5 (argAVs [(.int .i64), (.sl (.cons .str (.cons (.int .i64) (.cons (.int .i64) .nil))))] x) [.bool] = law15_SlotsRow k x.1 x.2.1 := by kernel_rfl
theorem law15_SlotsRow_ok (k : Nat) : FnOk Go.Proofs.Try.prog 5 (law15_SlotsRow_sig k) := fn_ok' (Γ := law15_SlotsRow_g) (H := law15_SlotsRow_h) (fun k => (.cons (slots_New_ok k) (.cons (law15_slotted_ok k) (.cons (slots_Save_ok k) (.cons (slots_Crash_ok k) (.cons (slots_Load_ok k) GOk.nil)))))) (by kernel_rfl) (by kernel_rfl) (law15_SlotsRow_ev k)
def ref12_Is_sig (k : Nat) : Sig := ⟨[(.cons (.int .i64) (.cons .str (.cons .str .nil)))], [.bool], fun x => ref12_Is k x.1⟩
def ref12_Is_g (k : Nat) : FuncId → Option Sig := Ab.look []
def ref12_Is_h (f r : Nat) : Option Hint := (Ab.look (α := List (Nat × Hint)) [] f).bind fun l => Ab.look l r
theorem ref12_Is_ev (k : Nat) (x : (List.foldr Ty.cons .nil [(.cons (.int .i64) (.cons .str (.cons .str .nil)))]).den) : evTop Go.Proofs.Try.prog ref12_Is_g ref12_Is_h 20 k 63 (argAVs [(.cons (.int .i64) (.cons .str (.cons .str .nil)))] x) [.bool] = ref12_Is k x.1 := by kernel_rfl
theorem ref12_Is_ok (k : Nat) : FnOk Go.Proofs.Try.prog 63 (ref12_Is_sig k) := fn_ok' (Γ := ref12_Is_g) (H := ref12_Is_h) (fun k => GOk.nil) (by kernel_rfl) (by kernel_rfl) (ref12_Is_ev k)
def ref15_Is_sig (k : Nat) : Sig := ⟨[(.cons (.int .i64) (.cons .str (.cons .str (.cons (.int .i64) (.cons .str (.cons .str .nil))))))], [.bool], fun x => ref15_Is k x.1⟩
def ref15_Is_g (k : Nat) : FuncId → Option Sig := Ab.look [(63, ref12_Is_sig k)]
def ref15_Is_h (f r : Nat) : Option Hint := (Ab.look (α := List (Nat × Hint)) [] f).bind fun l => Ab.look l r
theorem ref15_Is_ev (k : Nat) (x : (List.foldr Ty.cons .nil [(.cons (.int .i64) (.cons .str (.cons .str (.cons (.int .i64) (.cons .str (.cons .str .nil))))))]).den) : evTop Go.Proofs.Try.prog ref15_Is_g ref15_Is_h 20 k 47 (argAVs [(.cons (.int .i64) (.cons .str (.cons .str (.cons (.int .i64) (.cons .str (.cons .str .nil))))))] x) [.bool] = ref15_Is k x.1 := by kernel_rfl
theorem ref15_Is_ok (k : Nat) : FnOk Go.Proofs.Try.prog 47 (ref15_Is_sig k) := fn_ok' (Γ := ref15_Is_g) (H := ref15_Is_h) (fun k => (.cons (ref12_Is_ok k) GOk.nil)) (by kernel_rfl) (by kernel_rfl) (ref15_Is_ev k)
def ref12_Read_sig (k : Nat) : Sig := ⟨[(.cons (.int .i64) (.cons .str (.cons .str .nil)))], [.str], fun x => ref12_Read k x.1⟩
def ref12_Read_g (k : Nat) : FuncId → Option Sig := Ab.look []
def ref12_Read_h (f r : Nat) : Option Hint := (Ab.look (α := List (Nat × Hint)) [] f).bind fun l => Ab.look l r
theorem ref12_Read_ev (k : Nat) (x : (List.foldr Ty.cons .nil [(.cons (.int .i64) (.cons .str (.cons .str .nil)))]).den) : evTop Go.Proofs.Try.prog ref12_Read_g ref12_Read_h 20 k 48 (argAVs [(.cons (.int .i64) (.cons .str (.cons .str .nil)))] x) [.str] = ref12_Read k x.1 := by kernel_rfl
theorem ref12_Read_ok (k : Nat) : FnOk Go.Proofs.Try.prog 48 (ref12_Read_sig k) := fn_ok' (Γ := ref12_Read_g) (H := ref12_Read_h) (fun k => GOk.nil) (by kernel_rfl) (by kernel_rfl) (ref12_Read_ev k)
def ref01_Int_sig (k : Nat) : Sig := ⟨[(.int .i64)], [.str, (.int .i64)], fun x => ref01_Int k x.1⟩
def ref01_Int_g (k : Nat) : FuncId → Option Sig := Ab.look []
def ref01_Int_h (f r : Nat) : Option Hint := (Ab.look (α := List (Nat × Hint)) [(57, [(8, ⟨[.row 5 5 (.int .u8), .tmp 0 (.int .i64)], [16, 17, 18, 19, 20, 21, 22, 23, 24, 25]⟩)])] f).bind fun l => Ab.look l r
theorem ref01_Int_ev (k : Nat) (x : (List.foldr Ty.cons .nil [(.int .i64)]).den) : evTop Go.Proofs.Try.prog ref01_Int_g ref01_Int_h 20 k 57 (argAVs [(.int .i64)] x) [.str, (.int .i64)] = ref01_Int k x.1 := by kernel_rfl
theorem ref01_Int_ok (k : Nat) : FnOk Go.Proofs.Try.prog 57 (ref01_Int_sig k) := fn_ok' (Γ := ref01_Int_g) (H := ref01_Int_h) (fun k => GOk.nil) (by kernel_rfl) (by kernel_rfl) (ref01_Int_ev k)
def ref01_GetInt_sig (k : Nat) : Sig := ⟨[.str], [(.int .i64), .str, (.int .i64)], fun x => ref01_GetInt k x.1⟩
def ref01_GetInt_g (k : Nat) : FuncId → Option Sig := Ab.look [(57, ref01_Int_sig k)]
def ref01_GetInt_h (f r : Nat) : Option Hint := (Ab.look (α := List (Nat × Hint)) [(61, [(3, ⟨[.tmp 6 .bool, .tmp 5 (.int .i64)], [11, 12, 13, 14, 15, 16, 17, 18, 19, 20, 21, 22, 23, 24, 25, 26, 27, 28, 29]⟩), (12, ⟨[.tmp 7 (.int .i64), .tmp 8 (.int .i64)], [41, 42, 45, 46, 47, 48, 49, 50, 51, 43, 44]⟩)])] f).bind fun l => Ab.look l r
theorem ref01_GetInt_ev (k : Nat) (x : (List.foldr Ty.cons .nil [.str]).den) : evTop Go.Proofs.Try.prog ref01_GetInt_g ref01_GetInt_h 20 k 61 (argAVs [.str] x) [(.int .i64), .str, (.int .i64)] = ref01_GetInt k x.1 := by kernel_rfl
theorem ref01_GetInt_ok (k : Nat) : FnOk Go.Proofs.Try.prog 61 (ref01_GetInt_sig k) := fn_ok' (Γ := ref01_GetInt_g) (H := ref01_GetInt_h) (fun k => (.cons (ref01_Int_ok k) GOk.nil)) (by kernel_rfl) (by kernel_rfl) (ref01_GetInt_ev k)
def ref01_GetText_sig (k : Nat) : Sig := ⟨[.str], [.str, .str, (.int .i64)], fun x => ref01_GetText k x.1⟩
def ref01_GetText_g (k : Nat) : FuncId → Option Sig := Ab.look [(61, ref01_GetInt_sig k)]
def ref01_GetText_h (f r : Nat) : Option Hint := (Ab.look (α := List (Nat × Hint)) [] f).bind fun l => Ab.look l r
theorem ref01_GetText_ev (k : Nat) (x : (List.foldr Ty.cons .nil [.str]).den) : evTop Go.Proofs.Try.prog ref01_GetText_g ref01_GetText_h 20 k 80 (argAVs [.str] x) [.str, .str, (.int .i64)] = ref01_GetText k x.1 := by kernel_rfl
theorem ref01_GetText_ok (k : Nat) : FnOk Go.Proofs.Try.prog 80 (ref01_GetText_sig k) := fn_ok' (Γ := ref01_GetText_g) (H := ref01_GetText_h) (fun k => (.cons (ref01_GetInt_ok k) GOk.nil)) (by kernel_rfl) (by kernel_rfl) (ref01_GetText_ev k)
def ref02_Unlike_sig (k : Nat) : Sig := ⟨[(.int .i64), (.int .i64)], [(.int .i64)], fun x => ref02_Unlike k x.1 x.2.1⟩
def ref02_Unlike_g (k : Nat) : FuncId → Option Sig := Ab.look []
def ref02_Unlike_h (f r : Nat) : Option Hint := (Ab.look (α := List (Nat × Hint)) [(95, [(4, ⟨[.tmp 5 (.int .i64), .tmp 6 (.int .i64), .tmp 7 (.int .i64)], [8, 9, 12, 13, 14, 15, 16, 17, 18, 19, 20, 21, 22, 23, 24, 25, 10, 11]⟩)])] f).bind fun l => Ab.look l r
theorem ref02_Unlike_ev (k : Nat) (x : (List.foldr Ty.cons .nil [(.int .i64), (.int .i64)]).den) : evTop Go.Proofs.Try.prog ref02_Unlike_g ref02_Unlike_h 20 k 95 (argAVs [(.int .i64), (.int .i64)] x) [(.int .i64)] = ref02_Unlike k x.1 x.2.1 := by kernel_rfl
theorem ref02_Unlike_ok (k : Nat) : FnOk Go.Proofs.Try.prog 95 (ref02_Unlike_sig k) := fn_ok' (Γ := ref02_Unlike_g) (H := ref02_Unlike_h) (fun k => GOk.nil) (by kernel_rfl) (by kernel_rfl) (ref02_Unlike_ev k)
def ref02_Step_sig (k : Nat) : Sig := ⟨[(.int .i64), (.int .u8)], [(.int .i64), .bool], fun x => ref02_Step k x.1 x.2.1⟩
def ref02_Step_g (k : Nat) : FuncId → Option Sig := Ab.look [(95, ref02_Unlike_sig k)]
def ref02_Step_h (f r : Nat) : Option Hint := (Ab.look (α := List (Nat × Hint)) [(87, [(5, ⟨[.tmp 0 (.int .i64), .tmp 6 (.int .i64)], [18, 19, 22, 23, 24, 25, 26, 27, 28, 29, 20, 21]⟩)])] f).bind fun l => Ab.look l r
theorem ref02_Step_ev (k : Nat) (x : (List.foldr Ty.cons .nil [(.int .i64), (.int .u8)]).den) : evTop Go.Proofs.Try.prog ref02_Step_g ref02_Step_h 20 k 87 (argAVs [(.int .i64), (.int .u8)] x) [(.int .i64), .bool] = ref02_Step k x.1 x.2.1 := by kernel_rfl
theorem ref02_Step_ok (k : Nat) : FnOk Go.Proofs.Try.prog 87 (ref02_Step_sig k) := fn_ok' (Γ := ref02_Step_g) (H := ref02_Step_h) (fun k => (.cons (ref02_Unlike_ok k) GOk.nil)) (by kernel_rfl) (by kernel_rfl) (ref02_Step_ev k)
def ref02_Of_sig (k : Nat) : Sig := ⟨[.str], [(.int .i64)], fun x => ref02_Of k x.1⟩
def ref02_Of_g (k : Nat) : FuncId → Option Sig := Ab.look [(87, ref02_Step_sig k)]
def ref02_Of_h (f r : Nat) : Option Hint := (Ab.look (α := List (Nat × Hint)) [(76, [(3, ⟨[.tmp 3 (.int .i64), .tmp 4 (.int .i64)], [7, 8, 9, 10, 14, 15, 16, 17, 18, 13, 19, 20, 5, 6, 21, 11, 12]⟩)])] f).bind fun l => Ab.look l r
theorem ref02_Of_ev (k : Nat) (x : (List.foldr Ty.cons .nil [.str]).den) : evTop Go.Proofs.Try.prog ref02_Of_g ref02_Of_h 20 k 76 (argAVs [.str] x) [(.int .i64)] = ref02_Of k x.1 := by kernel_rfl
theorem ref02_Of_ok (k : Nat) : FnOk Go.Proofs.Try.prog 76 (ref02_Of_sig k) := fn_ok' (Γ := ref02_Of_g) (H := ref02_Of_h) (fun k => (.cons (ref02_Step_ok k) GOk.nil)) (by kernel_rfl) (by kernel_rfl) (ref02_Of_ev k)
def ref03_Get_sig (k : Nat) : Sig := ⟨[.str], [(.int .i64), .str, .str, (.int .i64)], fun x => ref03_Get k x.1⟩
def ref03_Get_g (k : Nat) : FuncId → Option Sig := Ab.look [(61, ref01_GetInt_sig k), (80, ref01_GetText_sig k), (76, ref02_Of_sig k)]
def ref03_Get_h (f r : Nat) : Option Hint := (Ab.look (α := List (Nat × Hint)) [] f).bind fun l => Ab.look l r
theorem ref03_Get_ev (k : Nat) (x : (List.foldr Ty.cons .nil [.str]).den) : evTop Go.Proofs.Try.prog ref03_Get_g ref03_Get_h 20 k 60 (argAVs [.str] x) [(.int .i64), .str, .str, (.int .i64)] = ref03_Get k x.1 := by kernel_rfl
theorem ref03_Get_ok (k : Nat) : FnOk Go.Proofs.Try.prog 60 (ref03_Get_sig k) := fn_ok' (Γ := ref03_Get_g) (H := ref03_Get_h) (fun k => (.cons (ref01_GetInt_ok k) (.cons (ref01_GetText_ok k) (.cons (ref02_Of_ok k) GOk.nil)))) (by kernel_rfl) (by kernel_rfl) (ref03_Get_ev k)
def ref15_note_sig (k : Nat) : Sig := ⟨[.str], [(.int .i64), .str, .bool], fun x => ref15_note k x.1⟩
def ref15_note_g (k : Nat) : FuncId → Option Sig := Ab.look [(60, ref03_Get_sig k), (61, ref01_GetInt_sig k)]
def ref15_note_h (f r : Nat) : Option Hint := (Ab.look (α := List (Nat × Hint)) [] f).bind fun l => Ab.look l r
theorem ref15_note_ev (k : Nat) (x : (List.foldr Ty.cons .nil [.str]).den) : evTop Go.Proofs.Try.prog ref15_note_g ref15_note_h 20 k 52 (argAVs [.str] x) [(.int .i64), .str, .bool] = ref15_note k x.1 := by kernel_rfl
theorem ref15_note_ok (k : Nat) : FnOk Go.Proofs.Try.prog 52 (ref15_note_sig k) := fn_ok' (Γ := ref15_note_g) (H := ref15_note_h) (fun k => (.cons (ref03_Get_ok k) (.cons (ref01_GetInt_ok k) GOk.nil))) (by kernel_rfl) (by kernel_rfl) (ref15_note_ev k)
def ref15_Better_sig (k : Nat) : Sig := ⟨[.str, .str], [.str, (.int .i64), (.int .i64)], fun x => ref15_Better k x.1 x.2.1⟩
def ref15_Better_g (k : Nat) : FuncId → Option Sig := Ab.look [(52, ref15_note_sig k)]
def ref15_Better_h (f r : Nat) : Option Hint := (Ab.look (α := List (Nat × Hint)) [] f).bind fun l => Ab.look l r
theorem ref15_Better_ev (k : Nat) (x : (List.foldr Ty.cons .nil [.str, .str]).den) : evTop Go.Proofs.Try.prog ref15_Better_g ref15_Better_h 20 k 23 (argAVs [.str, .str] x) [.str, (.int .i64), (.int .i64)] = ref15_Better k x.1 x.2.1 := by kernel_rfl
theorem ref15_Better_ok (k : Nat) : FnOk Go.Proofs.Try.prog 23 (ref15_Better_sig k) := fn_ok' (Γ := ref15_Better_g) (H := ref15_Better_h) (fun k => (.cons (ref15_note_ok k) GOk.nil)) (by kernel_rfl) (by kernel_rfl) (ref15_Better_ev k)
def ref15_Load_sig (k : Nat) : Sig := ⟨[(.cons (.int .i64) (.cons .str (.cons .str (.cons (.int .i64) (.cons .str (.cons .str .nil))))))], [.str, (.int .i64), (.int .i64)], fun x => ref15_Load k x.1⟩
def ref15_Load_g (k : Nat) : FuncId → Option Sig := Ab.look [(47, ref15_Is_sig k), (48, ref12_Read_sig k), (23, ref15_Better_sig k)]
def ref15_Load_h (f r : Nat) : Option Hint := (Ab.look (α := List (Nat × Hint)) [] f).bind fun l => Ab.look l r
theorem ref15_Load_ev (k : Nat) (x : (List.foldr Ty.cons .nil [(.cons (.int .i64) (.cons .str (.cons .str (.cons (.int .i64) (.cons .str (.cons .str .nil))))))]).den) : evTop Go.Proofs.Try.prog ref15_Load_g ref15_Load_h 20 k 19 (argAVs [(.cons (.int .i64) (.cons .str (.cons .str (.cons (.int .i64) (.cons .str (.cons .str .nil))))))] x) [.str, (.int .i64), (.int .i64)] = ref15_Load k x.1 := by kernel_rfl
theorem ref15_Load_ok (k : Nat) : FnOk Go.Proofs.Try.prog 19 (ref15_Load_sig k) := fn_ok' (Γ := ref15_Load_g) (H := ref15_Load_h) (fun k => (.cons (ref15_Is_ok k) (.cons (ref12_Read_ok k) (.cons (ref15_Better_ok k) GOk.nil)))) (by kernel_rfl) (by kernel_rfl) (ref15_Load_ev k)
def ref01_Text_sig (k : Nat) : Sig := ⟨[.str], [.str, (.int .i64)], fun x => ref01_Text k x.1⟩
def ref01_Text_g (k : Nat) : FuncId → Option Sig := Ab.look [(57, ref01_Int_sig k)]
def ref01_Text_h (f r : Nat) : Option Hint := (Ab.look (α := List (Nat × Hint)) [] f).bind fun l => Ab.look l r
theorem ref01_Text_ev (k : Nat) (x : (List.foldr Ty.cons .nil [.str]).den) : evTop Go.Proofs.Try.prog ref01_Text_g ref01_Text_h 20 k 75 (argAVs [.str] x) [.str, (.int .i64)] = ref01_Text k x.1 := by kernel_rfl
theorem ref01_Text_ok (k : Nat) : FnOk Go.Proofs.Try.prog 75 (ref01_Text_sig k) := fn_ok' (Γ := ref01_Text_g) (H := ref01_Text_h) (fun k => (.cons (ref01_Int_ok k) GOk.nil)) (by kernel_rfl) (by kernel_rfl) (ref01_Text_ev k)
def ref03_Put_sig (k : Nat) : Sig := ⟨[(.int .i64), .str], [.str, (.int .i64)], fun x => ref03_Put k x.1 x.2.1⟩
def ref03_Put_g (k : Nat) : FuncId → Option Sig := Ab.look [(75, ref01_Text_sig k), (57, ref01_Int_sig k), (76, ref02_Of_sig k)]
def ref03_Put_h (f r : Nat) : Option Hint := (Ab.look (α := List (Nat × Hint)) [] f).bind fun l => Ab.look l r
theorem ref03_Put_ev (k : Nat) (x : (List.foldr Ty.cons .nil [(.int .i64), .str]).den) : evTop Go.Proofs.Try.prog ref03_Put_g ref03_Put_h 20 k 58 (argAVs [(.int .i64), .str] x) [.str, (.int .i64)] = ref03_Put k x.1 x.2.1 := by kernel_rfl
theorem ref03_Put_ok (k : Nat) : FnOk Go.Proofs.Try.prog 58 (ref03_Put_sig k) := fn_ok' (Γ := ref03_Put_g) (H := ref03_Put_h) (fun k => (.cons (ref01_Text_ok k) (.cons (ref01_Int_ok k) (.cons (ref02_Of_ok k) GOk.nil)))) (by kernel_rfl) (by kernel_rfl) (ref03_Put_ev k)
def ref15_Note_sig (k : Nat) : Sig := ⟨[(.int .i64), .str], [.str], fun x => ref15_Note k x.1 x.2.1⟩
def ref15_Note_g (k : Nat) : FuncId → Option Sig := Ab.look [(57, ref01_Int_sig k), (58, ref03_Put_sig k)]
def ref15_Note_h (f r : Nat) : Option Hint := (Ab.look (α := List (Nat × Hint)) [] f).bind fun l => Ab.look l r
theorem ref15_Note_ev (k : Nat) (x : (List.foldr Ty.cons .nil [(.int .i64), .str]).den) : evTop Go.Proofs.Try.prog ref15_Note_g ref15_Note_h 20 k 49 (argAVs [(.int .i64), .str] x) [.str] = ref15_Note k x.1 x.2.1 := by kernel_rfl
theorem ref15_Note_ok (k : Nat) : FnOk Go.Proofs.Try.prog 49 (ref15_Note_sig k) := fn_ok' (Γ := ref15_Note_g) (H := ref15_Note_h) (fun k => (.cons (ref01_Int_ok k) (.cons (ref03_Put_ok k) GOk.nil))) (by kernel_rfl) (by kernel_rfl) (ref15_Note_ev k)
def ref15_Save_sig (k : Nat) : Sig := ⟨[(.cons (.int .i64) (.cons .str (.cons .str (.cons (.int .i64) (.cons .str (.cons .str .nil)))))), .str, (.int .i64)], [(.cons (.int .i64) (.cons .str (.cons .str (.cons (.int .i64) (.cons .str (.cons .str .nil)))))), .bool, (.int .i64)], fun x => ref15_Save k x.1 x.2.1 x.2.2.1⟩
def ref15_Save_g (k : Nat) : FuncId → Option Sig := Ab.look [(47, ref15_Is_sig k), (48, ref12_Read_sig k), (23, ref15_Better_sig k), (49, ref15_Note_sig k)]
def ref15_Save_h (f r : Nat) : Option Hint := (Ab.look (α := List (Nat × Hint)) [] f).bind fun l => Ab.look l r
theorem ref15_Save_ev (k : Nat) (x : (List.foldr Ty.cons .nil [(.cons (.int .i64) (.cons .str (.cons .str (.cons (.int .i64) (.cons .str (.cons .str .nil)))))), .str, (.int .i64)]).den) : evTop Go.Proofs.Try.prog ref15_Save_g ref15_Save_h 20 k 20 (argAVs [(.cons (.int .i64) (.cons .str (.cons .str (.cons (.int .i64) (.cons .str (.cons .str .nil)))))), .str, (.int .i64)] x) [(.cons (.int .i64) (.cons .str (.cons .str (.cons (.int .i64) (.cons .str (.cons .str .nil)))))), .bool, (.int .i64)] = ref15_Save k x.1 x.2.1 x.2.2.1 := by kernel_rfl
theorem ref15_Save_ok (k : Nat) : FnOk Go.Proofs.Try.prog 20 (ref15_Save_sig k) := fn_ok' (Γ := ref15_Save_g) (H := ref15_Save_h) (fun k => (.cons (ref15_Is_ok k) (.cons (ref12_Read_ok k) (.cons (ref15_Better_ok k) (.cons (ref15_Note_ok k) GOk.nil))))) (by kernel_rfl) (by kernel_rfl) (ref15_Save_ev k)
def ref12_Crash_sig (k : Nat) : Sig := ⟨[(.cons (.int .i64) (.cons .str (.cons .str .nil))), (.int .i64)], [(.cons (.int .i64) (.cons .str (.cons .str .nil))), (.int .i64)], fun x => ref12_Crash k x.1 x.2.1⟩
def ref12_Crash_g (k : Nat) : FuncId → Option Sig := Ab.look [(63, ref12_Is_sig k)]
def ref12_Crash_h (f r : Nat) : Option Hint := (Ab.look (α := List (Nat × Hint)) [] f).bind fun l => Ab.look l r
theorem ref12_Crash_ev (k : Nat) (x : (List.foldr Ty.cons .nil [(.cons (.int .i64) (.cons .str (.cons .str .nil))), (.int .i64)]).den) : evTop Go.Proofs.Try.prog ref12_Crash_g ref12_Crash_h 20 k 50 (argAVs [(.cons (.int .i64) (.cons .str (.cons .str .nil))), (.int .i64)] x) [(.cons (.int .i64) (.cons .str (.cons .str .nil))), (.int .i64)] = ref12_Crash k x.1 x.2.1 := by kernel_rfl
theorem ref12_Crash_ok (k : Nat) : FnOk Go.Proofs.Try.prog 50 (ref12_Crash_sig k) := fn_ok' (Γ := ref12_Crash_g) (H := ref12_Crash_h) (fun k => (.cons (ref12_Is_ok k) GOk.nil)) (by kernel_rfl) (by kernel_rfl) (ref12_Crash_ev k)
def ref15_Crash_sig (k : Nat) : Sig := ⟨[(.cons (.int .i64) (.cons .str (.cons .str (.cons (.int .i64) (.cons .str (.cons .str .nil)))))), (.int .i64)], [(.cons (.int .i64) (.cons .str (.cons .str (.cons (.int .i64) (.cons .str (.cons .str .nil)))))), (.int .i64)], fun x => ref15_Crash k x.1 x.2.1⟩
def ref15_Crash_g (k : Nat) : FuncId → Option Sig := Ab.look [(47, ref15_Is_sig k), (50, ref12_Crash_sig k)]
def ref15_Crash_h (f r : Nat) : Option Hint := (Ab.look (α := List (Nat × Hint)) [] f).bind fun l => Ab.look l r
theorem ref15_Crash_ev (k : Nat) (x : (List.foldr Ty.cons .nil [(.cons (.int .i64) (.cons .str (.cons .str (.cons (.int .i64) (.cons .str (.cons .str .nil)))))), (.int .i64)]).den) : evTop Go.Proofs.Try.prog ref15_Crash_g ref15_Crash_h 20 k 21 (argAVs [(.cons (.int .i64) (.cons .str (.cons .str (.cons (.int .i64) (.cons .str (.cons .str .nil)))))), (.int .i64)] x) [(.cons (.int .i64) (.cons .str (.cons .str (.cons (.int .i64) (.cons .str (.cons .str .nil)))))), (.int .i64)] = ref15_Crash k x.1 x.2.1 := by kernel_rfl
theorem ref15_Crash_ok (k : Nat) : FnOk Go.Proofs.Try.prog 21 (ref15_Crash_sig k) := fn_ok' (Γ := ref15_Crash_g) (H := ref15_Crash_h) (fun k => (.cons (ref15_Is_ok k) (.cons (ref12_Crash_ok k) GOk.nil))) (by kernel_rfl) (by kernel_rfl) (ref15_Crash_ev k)
def slots_Better_sig (k : Nat) : Sig := ⟨[.str, .str], [.str, (.int .i64), (.int .i64)], fun x => slots_Better k x.1 x.2.1⟩
def slots_Better_g (k : Nat) : FuncId → Option Sig := Ab.look [(51, slots_better_sig k)]
def slots_Better_h (f r : Nat) : Option Hint := (Ab.look (α := List (Nat × Hint)) [] f).bind fun l => Ab.look l r
theorem slots_Better_ev (k : Nat) (x : (List.foldr Ty.cons .nil [.str, .str]).den) : evTop Go.Proofs.Try.prog slots_Better_g slots_Better_h 20 k 22 (argAVs [.str, .str] x) [.str, (.int .i64), (.int .i64)] = slots_Better k x.1 x.2.1 := by kernel_rfl
theorem slots_Better_ok (k : Nat) : FnOk Go.Proofs.Try.prog 22 (slots_Better_sig k) := fn_ok' (Γ := slots_Better_g) (H := slots_Better_h) (fun k => (.cons (slots_better_ok k) GOk.nil)) (by kernel_rfl) (by kernel_rfl) (slots_Better_ev k)
def ref12_New_sig (k : Nat) : Sig := ⟨[(.int .i64)], [(.cons (.int .i64) (.cons .str (.cons .str .nil))), (.int .i64)], fun x => ref12_New k x.1⟩
def ref12_New_g (k : Nat) : FuncId → Option Sig := Ab.look []
def ref12_New_h (f r : Nat) : Option Hint := (Ab.look (α := List (Nat × Hint)) [] f).bind fun l => Ab.look l r
theorem ref12_New_ev (k : Nat) (x : (List.foldr Ty.cons .nil [(.int .i64)]).den) : evTop Go.Proofs.Try.prog ref12_New_g ref12_New_h 20 k 53 (argAVs [(.int .i64)] x) [(.cons (.int .i64) (.cons .str (.cons .str .nil))), (.int .i64)] = ref12_New k x.1 := by kernel_rfl
theorem ref12_New_ok (k : Nat) : FnOk Go.Proofs.Try.prog 53 (ref12_New_sig k) := fn_ok' (Γ := ref12_New_g) (H := ref12_New_h) (fun k => GOk.nil) (by kernel_rfl) (by kernel_rfl) (ref12_New_ev k)
def ref15_New_sig (k : Nat) : Sig := ⟨[(.int .i64)], [(.cons (.int .i64) (.cons .str (.cons .str (.cons (.int .i64) (.cons .str (.cons .str .nil)))))), (.int .i64)], fun x => ref15_New k x.1⟩
def ref15_New_g (k : Nat) : FuncId → Option Sig := Ab.look [(53, ref12_New_sig k)]
def ref15_New_h (f r : Nat) : Option Hint := (Ab.look (α := List (Nat × Hint)) [] f).bind fun l => Ab.look l r
theorem ref15_New_ev (k : Nat) (x : (List.foldr Ty.cons .nil [(.int .i64)]).den) : evTop Go.Proofs.Try.prog ref15_New_g ref15_New_h 20 k 24 (argAVs [(.int .i64)] x) [(.cons (.int .i64) (.cons .str (.cons .str (.cons (.int .i64) (.cons .str (.cons .str .nil)))))), (.int .i64)] = ref15_New k x.1 := by kernel_rfl
theorem ref15_New_ok (k : Nat) : FnOk Go.Proofs.Try.prog 24 (ref15_New_sig k) := fn_ok' (Γ := ref15_New_g) (H := ref15_New_h) (fun k => (.cons (ref12_New_ok k) GOk.nil)) (by kernel_rfl) (by kernel_rfl) (ref15_New_ev k)
def law15_SlotsDo_sig (k : Nat) : Sig := ⟨[(.cons (.int .i64) (.cons .str (.cons .str (.cons (.int .i64) (.cons .str (.cons .str .nil)))))), .str, (.int .i64), (.int .i64), .str, .str], [.bool], fun x => law15_SlotsDo k x.1 x.2.1 x.2.2.1 x.2.2.2.1 x.2.2.2.2.1 x.2.2.2.2.2.1⟩
def law15_SlotsDo_g (k : Nat) : FuncId → Option Sig := Ab.look [(13, law15_far_sig k), (14, slots_Load_sig k), (19, ref15_Load_sig k), (15, slots_Save_sig k), (20, ref15_Save_sig k), (17, slots_Crash_sig k), (21, ref15_Crash_sig k), (22, slots_Better_sig k), (23, ref15_Better_sig k), (18, slots_New_sig k), (24, ref15_New_sig k), (16, law15_slotted_sig k)]
def law15_SlotsDo_h (f r : Nat) : Option Hint := (Ab.look (α := List (Nat × Hint)) [] f).bind fun l => Ab.look l r
theorem law15_SlotsDo_ev (k : Nat) (x : (List.foldr Ty.cons .nil [(.cons (.int .i64) (.cons .str (.cons .str (.cons (.int .i64) (.cons .str (.cons .str .nil)))))), .str, (.int .i64), (.int .i64), .str, .str]).den) : evTop Go.Proofs.Try.prog law15_SlotsDo_g law15_SlotsDo_h 20 k 6 (argAVs [(.cons (.int .i64) (.cons .str (.cons .str (.cons (.int .i64) (.cons .str (.cons .str .nil)))))), .str, (.int .i64), (.int .i64), .str, .str] x) [.bool] = law15_SlotsDo k x.1 x.2.1 x.2.2.1 x.2.2.2.1 x.2.2.2.2.1 x.2.2.2.2.2.1 := by kernel_rfl
theorem law15_SlotsDo_ok (k : Nat) : FnOk Go.Proofs.Try.prog 6 (law15_SlotsDo_sig k) := fn_ok' (Γ := law15_SlotsDo_g) (H := law15_SlotsDo_h) (fun k => (.cons (law15_far_ok k) (.cons (slots_Load_ok k) (.cons (ref15_Load_ok k) (.cons (slots_Save_ok k) (.cons (ref15_Save_ok k) (.cons (slots_Crash_ok k) (.cons (ref15_Crash_ok k) (.cons (slots_Better_ok k) (.cons (ref15_Better_ok k) (.cons (slots_New_ok k) (.cons (ref15_New_ok k) (.cons (law15_slotted_ok k) GOk.nil))))))))))))) (by kernel_rfl) (by kernel_rfl) (law15_SlotsDo_ev k)
def law15_SlotsSide_sig (k : Nat) : Sig := ⟨[.str, .str], [.bool], fun x => law15_SlotsSide k x.1 x.2.1⟩
def law15_SlotsSide_g (k : Nat) : FuncId → Option Sig := Ab.look [(22, slots_Better_sig k), (16, law15_slotted_sig k)]
def law15_SlotsSide_h (f r : Nat) : Option Hint := (Ab.look (α := List (Nat × Hint)) [] f).bind fun l => Ab.look l r
theorem law15_SlotsSide_ev (k : Nat) (x : (List.foldr Ty.cons .nil [.str, .str]).den) : evTop Go.Proofs.Try.prog law15_SlotsSide_g law15_SlotsSide_h 20 k 7 (argAVs [.str, .str] x) [.bool] = law15_SlotsSide k x.1 x.2.1 := by kernel_rfl
theorem law15_SlotsSide_ok (k : Nat) : FnOk Go.Proofs.Try.prog 7 (law15_SlotsSide_sig k) := fn_ok' (Γ := law15_SlotsSide_g) (H := law15_SlotsSide_h) (fun k => (.cons (slots_Better_ok k) (.cons (law15_slotted_ok k) GOk.nil))) (by kernel_rfl) (by kernel_rfl) (law15_SlotsSide_ev k)
end Go.Proofs.Ytbllbljligmglaa.A
