import Derived.Test.YtfhphiedbdinmaaGreatDoorEvMT
set_option linter.all false
namespace Go.Proofs.YtfhphiedbdinmaaGreatDoor.A
open Go Ab
set_option maxRecDepth 100000
noncomputable section
private noncomputable abbrev pg : Program := Go.Proofs.Tryz.prog
private theorem pm : pg.follows .mixedOrders = true := by kernel_rfl
private noncomputable abbrev T0 : Ty := (.cons (.int .i64) (.cons (.int .i64) (.cons (.int .i64) (.cons (.int .i64) (.cons (.int .i64) (.cons (.int .i64) .nil))))))
def top_bytes_sig (k : Nat) : Sig := ⟨[(.sl (.cons (.int .i64) (.cons (.int .i64) T0)))], [(.sl .str), .bool], fun x => top_bytes k x.1⟩
theorem top_bytes_ok (k : Nat) : FnOk pg 5 (top_bytes_sig k) := fn_okE k [⟨_, _, packet_PutCmd_ok⟩] (hs [(5, [(3, ⟨[.tmp 2 (.sl .str), .tmp 3 .bool, .row 4 9 .str, .tmp 5 (.int .i64)], [8, 9, 10, 11, 15, 16, 17, 18, 19, 14, 20, 21, 6, 7, 22, 23, 24, 25, 26, 27, 12, 13], false⟩)])]) pm (by kernel_rfl) fun x => by kernel_rfl
def top_kept_sig (k : Nat) : Sig := ⟨[], [.bool], fun x => top_kept k⟩
theorem top_kept_ok (k : Nat) : FnOk pg 7 (top_kept_sig k) := fn_okE k [⟨_, _, packet_PutCmd_ok⟩, ⟨_, _, keep_New_ok⟩, ⟨_, _, keep_Push_ok⟩, ⟨_, _, keep_Open_ok⟩] nh pm (by kernel_rfl) fun x => by kernel_rfl
def top_front_sig (k : Nat) : Sig := ⟨[(.sl .str), (.sl .str)], [.bool], fun x => top_front k x.1 x.2.1⟩
theorem top_front_ok (k : Nat) : FnOk pg 12 (top_front_sig k) := fn_okE k [] (hs [(12, [(4, ⟨[.tmp 4 .bool, .tmp 5 (.int .i64)], [11, 12, 13, 14, 17, 18, 19, 20, 21, 22, 23, 24, 25, 15, 16], false⟩)])]) pm (by kernel_rfl) fun x => by kernel_rfl
def top_alarms_sig (k : Nat) : Sig := ⟨[(.cons (.int .i64) (.cons (.int .i64) (.cons (.sl T0) .nil))), (.cons (.int .i64) (.cons (.int .i64) (.cons (.sl T0) .nil)))], [.bool], fun x => top_alarms k x.1 x.2.1⟩
theorem top_alarms_ok (k : Nat) : FnOk pg 15 (top_alarms_sig k) := fn_okE k [] (hs [(15, [(4, ⟨[.tmp 4 .bool, .tmp 5 (.int .i64)], [27, 28, 29, 30, 31, 34, 35, 36, 37, 38, 39, 40, 41, 42, 43, 44, 32, 33], false⟩)])]) pm (by kernel_rfl) fun x => by kernel_rfl
def top_TopPicture_sig (k : Nat) : Sig := ⟨[(.sl (.cons (.int .i64) (.cons (.int .i64) T0))), (.int .i64), (.int .i64), (.int .i64), (.int .i64)], [.bool], fun x => top_TopPicture k x.1 x.2.1 x.2.2.1 x.2.2.2.1 x.2.2.2.2.1⟩
theorem top_TopPicture_okT (k : Nat) : FnOkT pg 4 (top_TopPicture_sig k) := fn_okET k [.p top_bytes_ok, .p keep_New_ok, .p keep_Push_ok, .p top_kept_ok, .p keep_Snap_ok, .p keep_Crash_ok, .p keep_Open_ok, .p top_front_ok, .p machine_New_ok, ⟨_, _, machine_Run_okT⟩, .p top_alarms_ok] (hs [(4, [(4000012, ⟨[.row 27 9 .str], [110, 111, 112], true⟩), (4000013, ⟨[.row 27 9 .str], [113, 114, 115], true⟩), (4000014, ⟨[.tmp 149 .bool], [116, 117, 118, 119, 120, 121, 122, 123, 124, 125, 126, 127, 128, 129, 130, 131, 132, 133, 134, 135, 136, 137, 138, 139, 140, 141, 142, 143, 144, 145, 146, 147, 148], true⟩)])]) pm (by kernel_rfl) fun x => by kernel_rfl
end
end Go.Proofs.YtfhphiedbdinmaaGreatDoor.A
