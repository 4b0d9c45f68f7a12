/- PRINTED BY resid.py (ours): each function's calls come to what is printed of it. -/
import Derived.Test.YtoeikeabbdnkbaaFnSDoes
import Derived.Test.YtoeikeabbdnkbaaAbG
import Derived.Test.YtoeikeabbdnkbaaProg
import Derived.Test.YtoeikeabbdnkbaaAHSmudge
import Derived.Test.YtoeikeabbdnkbaaEvP
import Derived.Test.YtoeikeabbdnkbaaEvSD
namespace Go.Proofs.Ytoeikeabbdnkbaa.A
open Go Go.Proofs.Ytoeikeabbdnkbaa.Ab
set_option linter.unusedVariables false
set_option maxRecDepth 100000
noncomputable section
def law14_SegmentDoes_sig (k : Nat) : Sig := ⟨[(.cons (.int .i64) (.cons (.int .i64) (.cons (.sl (.cons (.int .i64) (.cons .str (.cons .str .nil)))) .nil))), (.sl .str), (.int .i64), (.int .i64)], [.bool], fun x => law14_SegmentDoes k x.1 x.2.1 x.2.2.1 x.2.2.2.1⟩
def law14_SegmentDoes_g (k : Nat) : FuncId → Option Sig := Ab.look [(13, law14_far_sig k), (16, segment_Read_sig k), (39, ref14_Read_sig k), (41, ref01_OwnTexts_sig k), (40, ref14_Add_sig k), (42, ref14_Sync_sig k), (43, ref14_Crash_sig k), (44, ref14_Mend_sig k), (45, ref14_Drop_sig k), (12, segment_New_sig k), (46, ref14_New_sig k), (18, ref01_Texts_sig k), (17, ref14_Same_sig k), (14, law14_parted_sig k), (19, segment_Is_sig k), (48, ref14_Is_sig k)]
def law14_SegmentDoes_p (k : Nat) : FuncId → Option Special := Ab.look (α := Special) [(17, .lend (ref14_Same_sig k)), (15, .fresh (segment_Add_sig k)), (35, .fresh (segment_Sync_sig k)), (36, .fresh (segment_Crash_sig k)), (37, .fresh (segment_Mend_sig k)), (20, .fresh (segment_Drop_sig k)), (47, .spoil (.cons (.int .i64) (.cons .str (.cons .str .nil))))]
def law14_SegmentDoes_h (f r : Nat) : Option Hint := (Ab.look (α := List (Nat × Hint)) [] f).bind fun l => Ab.look l r
theorem law14_SegmentDoes_ev (k : Nat) (x : (List.foldr Ty.cons .nil [(.cons (.int .i64) (.cons (.int .i64) (.cons (.sl (.cons (.int .i64) (.cons .str (.cons .str .nil)))) .nil))), (.sl .str), (.int .i64), (.int .i64)]).den) : evTop Go.Proofs.Try.prog law14_SegmentDoes_g law14_SegmentDoes_p law14_SegmentDoes_h 20 k 10 (argAVs [(.cons (.int .i64) (.cons (.int .i64) (.cons (.sl (.cons (.int .i64) (.cons .str (.cons .str .nil)))) .nil))), (.sl .str), (.int .i64), (.int .i64)] x) [.bool] = law14_SegmentDoes k x.1 x.2.1 x.2.2.1 x.2.2.2.1 := by kernel_rfl
theorem law14_SegmentDoes_ok (k : Nat) : FnOk Go.Proofs.Try.prog 10 (law14_SegmentDoes_sig k) := fn_okP (Γ := law14_SegmentDoes_g) (Φ := law14_SegmentDoes_p) (H := law14_SegmentDoes_h) (fun k => (.cons (law14_far_ok k) (.cons (segment_Read_ok k) (.cons (ref14_Read_ok k) (.cons (ref01_OwnTexts_ok k) (.cons (ref14_Add_ok k) (.cons (ref14_Sync_ok k) (.cons (ref14_Crash_ok k) (.cons (ref14_Mend_ok k) (.cons (ref14_Drop_ok k) (.cons (segment_New_ok k) (.cons (ref14_New_ok k) (.cons (ref01_Texts_ok k) (.cons (ref14_Same_ok k) (.cons (law14_parted_ok k) (.cons (segment_Is_ok k) (.cons (ref14_Is_ok k) GOk.nil))))))))))))))))) (fun k => (.lend (ref14_Same_ok k) (.fresh (segment_Add_okF k) (.fresh (segment_Sync_okF k) (.fresh (segment_Crash_okF k) (.fresh (segment_Mend_okF k) (.fresh (segment_Drop_okF k) (.spoil (law14_smudge_spoil) POk.nil)))))))) (by kernel_rfl) (by kernel_rfl) (law14_SegmentDoes_ev k)
end
end Go.Proofs.Ytoeikeabbdnkbaa.A
