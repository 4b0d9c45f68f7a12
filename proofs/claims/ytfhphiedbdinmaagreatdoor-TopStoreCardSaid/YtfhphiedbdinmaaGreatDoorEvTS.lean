import Derived.Test.YtfhphiedbdinmaaGreatDoorEvMT
set_option linter.all false
namespace Go.Proofs.YtfhphiedbdinmaaGreatDoor.A
open Go Ab
set_option maxRecDepth 100000
noncomputable section
private noncomputable abbrev pg : Program := Go.Proofs.Tryz.prog
private theorem pm : pg.follows .mixedOrders = true := by kernel_rfl
private noncomputable abbrev T0 : Ty := (.cons (.int .i64) (.cons (.int .i64) (.cons (.int .i64) (.cons (.int .i64) (.cons (.int .i64) (.cons (.int .i64) .nil))))))
private noncomputable abbrev T1 : Ty := (.cons (.int .i64) (.cons (.int .i64) T0))
def top_bytes_sig (k : Nat) : Sig := ⟨[(.sl T1)], [(.sl .str), .bool], fun x => top_bytes k x.1⟩
theorem top_bytes_ok (k : Nat) : FnOk pg 5 (top_bytes_sig k) := fn_okE k [⟨_, _, packet_PutCmd_ok⟩] (hs [(5, [(3, ⟨[.tmp 2 (.sl .str), .tmp 3 .bool, .row 4 9 .str, .tmp 5 (.int .i64)], [8, 9, 10, 11, 15, 16, 17, 18, 19, 14, 20, 21, 6, 7, 22, 23, 24, 25, 26, 27, 12, 13], false⟩)])]) pm (by kernel_rfl) fun x => by kernel_rfl
def top_kept_sig (k : Nat) : Sig := ⟨[], [.bool], fun x => top_kept k⟩
theorem top_kept_ok (k : Nat) : FnOk pg 7 (top_kept_sig k) := fn_okE k [⟨_, _, packet_PutCmd_ok⟩, ⟨_, _, keep_New_ok⟩, ⟨_, _, keep_Push_ok⟩, ⟨_, _, keep_Open_ok⟩] nh pm (by kernel_rfl) fun x => by kernel_rfl
def top_cmds_sig (k : Nat) : Sig := ⟨[(.sl .str)], [(.sl T1), .bool], fun x => top_cmds k x.1⟩
theorem top_cmds_ok (k : Nat) : FnOk pg 11 (top_cmds_sig k) := fn_okE k [⟨_, _, packet_GetCmd_ok⟩] (hs [(11, [(3, ⟨[.tmp 2 (.sl T1), .tmp 3 .bool, .row 4 70 T1, .tmp 5 (.int .i64)], [8, 9, 10, 11, 15, 16, 17, 18, 19, 14, 20, 21, 6, 7, 22, 23, 24, 25, 26, 27, 12, 13], false⟩)])]) pm (by kernel_rfl) fun x => by kernel_rfl
def top_front_sig (k : Nat) : Sig := ⟨[(.sl .str), (.sl .str)], [.bool], fun x => top_front k x.1 x.2.1⟩
theorem top_front_ok (k : Nat) : FnOk pg 12 (top_front_sig k) := fn_okE k [] (hs [(12, [(4, ⟨[.tmp 4 .bool, .tmp 5 (.int .i64)], [11, 12, 13, 14, 17, 18, 19, 20, 21, 22, 23, 24, 25, 15, 16], false⟩)])]) pm (by kernel_rfl) fun x => by kernel_rfl
def top_alarms_sig (k : Nat) : Sig := ⟨[(.cons (.int .i64) (.cons (.int .i64) (.cons (.sl T0) .nil))), (.cons (.int .i64) (.cons (.int .i64) (.cons (.sl T0) .nil)))], [.bool], fun x => top_alarms k x.1 x.2.1⟩
theorem top_alarms_ok (k : Nat) : FnOk pg 15 (top_alarms_sig k) := fn_okE k [] (hs [(15, [(4, ⟨[.tmp 4 .bool, .tmp 5 (.int .i64)], [27, 28, 29, 30, 31, 34, 35, 36, 37, 38, 39, 40, 41, 42, 43, 44, 32, 33], false⟩)])]) pm (by kernel_rfl) fun x => by kernel_rfl
def top_TopStore_sig (k : Nat) : Sig := ⟨[(.sl T1), (.int .i64), (.int .i64), (.int .i64)], [.bool], fun x => top_TopStore k x.1 x.2.1 x.2.2.1 x.2.2.2.1⟩
def top_TopStore_g (k : Nat) : FuncId -> Option Sig := Ab.look [(5, top_bytes_sig k), (6, keep_New_sig k), (7, top_kept_sig k), (8, keep_Push_sig k), (9, keep_Crash_sig k), (10, keep_Open_sig k), (11, top_cmds_sig k), (12, top_front_sig k), (13, machine_New_sig k), (15, top_alarms_sig k)]
def top_TopStore_p (k : Nat) : FuncId -> Option Special := Ab.look (α := Special) [(14, .tab (machine_Run_sig k))]
def top_TopStore_h (f r : Nat) : Option Hint := (Ab.look (α := List (Nat × Hint)) [(3, [(6, ⟨[.tmp 8 .bool, .tmp 13 (.int .i64), .box 11 (.cons (.int .i64) (.cons .str (.cons .str (.cons (.int .i64) (.cons .str (.cons .str (.cons (.int .i64) (.cons .str (.cons .str (.cons (.int .i64) (.cons .str (.cons .str (.cons (.int .i64) (.cons (.int .i64) (.cons (.sl (.cons (.int .i64) (.cons .str (.cons .str .nil)))) .nil)))))))))))))))], [57, 58, 59, 60, 14, 63, 64, 65, 67, 68, 69, 70, 71, 72, 73, 74, 66, 75, 76, 77, 15, 16, 17, 78, 79, 80, 81, 61, 62], false⟩)])] f).bind fun l => Ab.look l r
theorem top_TopStore_ev (k : Nat) (x : (List.foldr Ty.cons .nil [(.sl T1), (.int .i64), (.int .i64), (.int .i64)]).den) : evTop pg top_TopStore_g top_TopStore_p top_TopStore_h 20 k 3 (argAVs [(.sl T1), (.int .i64), (.int .i64), (.int .i64)] x) [.bool] = top_TopStore k x.1 x.2.1 x.2.2.1 x.2.2.2.1 := by kernel_rfl
theorem top_TopStore_okT (k : Nat) : FnOkT pg 3 (top_TopStore_sig k) := fn_okT' (Γ := top_TopStore_g) (Φ := top_TopStore_p) (H := top_TopStore_h) (fun k => (.cons (top_bytes_ok k) (.cons (keep_New_ok k) (.cons (top_kept_ok k) (.cons (keep_Push_ok k) (.cons (keep_Crash_ok k) (.cons (keep_Open_ok k) (.cons (top_cmds_ok k) (.cons (top_front_ok k) (.cons (machine_New_ok k) (.cons (top_alarms_ok k) GOk.nil))))))))))) (fun k => (.tab (machine_Run_okT k) POk.nil)) (by kernel_rfl) (by kernel_rfl) (top_TopStore_ev k)
end
end Go.Proofs.YtfhphiedbdinmaaGreatDoor.A
