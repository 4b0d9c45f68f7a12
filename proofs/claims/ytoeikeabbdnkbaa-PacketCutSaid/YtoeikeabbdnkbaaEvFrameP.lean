/- PRINTED BY resid.py (ours): each function's calls come to what is printed of it. -/
import Derived.Test.YtoeikeabbdnkbaaFnFrameP
import Derived.Test.YtoeikeabbdnkbaaAbG
import Derived.Test.YtoeikeabbdnkbaaProg
import Derived.Test.YtoeikeabbdnkbaaAHInts
import Derived.Test.YtoeikeabbdnkbaaAHSum
namespace Go.Proofs.Ytoeikeabbdnkbaa.A
open Go Go.Proofs.Ytoeikeabbdnkbaa.Ab
set_option linter.unusedVariables false
set_option maxRecDepth 100000
def wire_Int_sig (k : Nat) : Sig := ⟨[(.int .i64)], [.str, (.int .i64)], fun x => wire_Int k x.1⟩
def wire_Int_g (k : Nat) : FuncId → Option Sig := Ab.look [(121, wire_Ints_sig k)]
def wire_Int_h (f r : Nat) : Option Hint := (Ab.look (α := List (Nat × Hint)) [] f).bind fun l => Ab.look l r
theorem wire_Int_ev (k : Nat) (x : (List.foldr Ty.cons .nil [(.int .i64)]).den) : evTop Go.Proofs.Try.prog wire_Int_g wire_Int_h 20 k 92 (argAVs [(.int .i64)] x) [.str, (.int .i64)] = wire_Int k x.1 := by kernel_rfl
theorem wire_Int_ok (k : Nat) : FnOk Go.Proofs.Try.prog 92 (wire_Int_sig k) := fn_ok' (Γ := wire_Int_g) (H := wire_Int_h) (fun k => (.cons (wire_Ints_ok k) GOk.nil)) (by kernel_rfl) (by kernel_rfl) (wire_Int_ev k)
def wire_Text_sig (k : Nat) : Sig := ⟨[.str], [.str, (.int .i64)], fun x => wire_Text k x.1⟩
def wire_Text_g (k : Nat) : FuncId → Option Sig := Ab.look [(92, wire_Int_sig k)]
def wire_Text_h (f r : Nat) : Option Hint := (Ab.look (α := List (Nat × Hint)) [] f).bind fun l => Ab.look l r
theorem wire_Text_ev (k : Nat) (x : (List.foldr Ty.cons .nil [.str]).den) : evTop Go.Proofs.Try.prog wire_Text_g wire_Text_h 20 k 119 (argAVs [.str] x) [.str, (.int .i64)] = wire_Text k x.1 := by kernel_rfl
theorem wire_Text_ok (k : Nat) : FnOk Go.Proofs.Try.prog 119 (wire_Text_sig k) := fn_ok' (Γ := wire_Text_g) (H := wire_Text_h) (fun k => (.cons (wire_Int_ok k) GOk.nil)) (by kernel_rfl) (by kernel_rfl) (wire_Text_ev k)
def frame_Put_sig (k : Nat) : Sig := ⟨[(.int .i64), .str], [.str, (.int .i64)], fun x => frame_Put k x.1 x.2.1⟩
def frame_Put_g (k : Nat) : FuncId → Option Sig := Ab.look [(119, wire_Text_sig k), (92, wire_Int_sig k), (126, sum_Over_sig k)]
def frame_Put_h (f r : Nat) : Option Hint := (Ab.look (α := List (Nat × Hint)) [] f).bind fun l => Ab.look l r
theorem frame_Put_ev (k : Nat) (x : (List.foldr Ty.cons .nil [(.int .i64), .str]).den) : evTop Go.Proofs.Try.prog frame_Put_g frame_Put_h 20 k 93 (argAVs [(.int .i64), .str] x) [.str, (.int .i64)] = frame_Put k x.1 x.2.1 := by kernel_rfl
theorem frame_Put_ok (k : Nat) : FnOk Go.Proofs.Try.prog 93 (frame_Put_sig k) := fn_ok' (Γ := frame_Put_g) (H := frame_Put_h) (fun k => (.cons (wire_Text_ok k) (.cons (wire_Int_ok k) (.cons (sum_Over_ok k) GOk.nil)))) (by kernel_rfl) (by kernel_rfl) (frame_Put_ev k)
end Go.Proofs.Ytoeikeabbdnkbaa.A
